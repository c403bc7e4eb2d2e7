/- THE ORDERS OF SLOTS: what keeps them, on both sides. Conditions: the slices show what is told. -/
import Derived.Test.YtafonoekobkcdaaLcE
set_option linter.unusedVariables false
set_option linter.unusedSimpArgs false
namespace Go.AM
/-- Rows in the order of what must stand above what. -/
def ordered (l : List En) : Bool := decide (l.Pairwise fun a b => b.above a = false)
def longs (l : List En) : Bool := decide (l.Pairwise fun a b => b.n ≤ a.n)
theorem pair_snoc {α : Type} {R : α → α → Prop} {l : List α} {x : α} : (l ++ [x]).Pairwise R ↔ l.Pairwise R ∧ ∀ a ∈ l, R a x := by
  rw [List.pairwise_append]
  simp
theorem pair_take {α : Type} {R : α → α → Prop} {l : List α} (h : l.Pairwise R) (k : Nat) : (l.take k).Pairwise R := h.sublist (List.take_sublist k l)
theorem longs_ents (l : List Sl) : longs (ents l) = decide (l.Pairwise fun a b => a.ok = true → b.ok = true → b.e.n ≤ a.e.n) := by
  unfold longs ents
  rw [decide_eq_decide, List.pairwise_map, List.pairwise_filter]
theorem chain_pair {l : List En} (h : ∀ i, ∀ x y, l[i]? = some x → l[i + 1]? = some y → y.n ≤ x.n) : l.Pairwise fun a b => b.n ≤ a.n := by
  rw [List.pairwise_iff_getElem]
  intro i j hi hj hij
  obtain ⟨d, rfl⟩ : ∃ d, j = i + 1 + d := ⟨j - i - 1, by omega⟩
  clear hij
  induction d with
  | zero => exact h i _ _ (List.getElem?_eq_getElem hi) (List.getElem?_eq_getElem hj)
  | succ d ih =>
    have h1 := ih (by omega)
    have h2 := h (i + 1 + d) _ _ (List.getElem?_eq_getElem (by omega)) (List.getElem?_eq_getElem hj)
    exact Int.le_trans h2 h1
end Go.AM
namespace Go.Proofs.Ytafonoekobkcdaa.C
open Go.AM
variable {hook : Nat → Nat → List AV → Heap → Option (AV × Heap)} {lim : Nat} {H : Heap}
theorem ev_cmpI (a b : Int) : ev (PX hook) lim 65 [.int .i64 a, .int .i64 b] H = some (.int .i64 (cmpI a b), H) := by
  refine ev_own _ (PF t65) rfl (by decide) ?_
  unfold cmpI
  by_cases h1 : a < b
  · have d1 : decide (a < b) = true := by simp [h1]
    simp only [f65, go_sem, Nat.reduceAdd, Nat.reduceMul, Nat.reduceSub, Nat.reduceBEq, Nat.reduceEqDiff, Nat.reduceLeDiff, Nat.reduceLT, Nat.reduceBneDiff, Int.reduceAdd, Int.cast_ofNat_Int, Int.toNat_natCast, Int.reduceLE, Int.reduceLT, Int.reduceToNat, Int.reduceEq, ↓reduceIte, ev_isNaN, d1, h1]
  · have d1 : decide (a < b) = false := by simp [h1]
    by_cases h2 : b < a
    · have d2 : decide (b < a) = true := by simp [h2]
      simp only [f65, go_sem, Nat.reduceAdd, Nat.reduceMul, Nat.reduceSub, Nat.reduceBEq, Nat.reduceEqDiff, Nat.reduceLeDiff, Nat.reduceLT, Nat.reduceBneDiff, Int.reduceAdd, Int.cast_ofNat_Int, Int.toNat_natCast, Int.reduceLE, Int.reduceLT, Int.reduceToNat, Int.reduceEq, ↓reduceIte, ev_isNaN, d1, d2, h1, h2, gt_iff_lt]
    · have d2 : decide (b < a) = false := by simp [h2]
      simp only [f65, go_sem, Nat.reduceAdd, Nat.reduceMul, Nat.reduceSub, Nat.reduceBEq, Nat.reduceEqDiff, Nat.reduceLeDiff, Nat.reduceLT, Nat.reduceBneDiff, Int.reduceAdd, Int.cast_ofNat_Int, Int.toNat_natCast, Int.reduceLE, Int.reduceLT, Int.reduceToNat, Int.reduceEq, ↓reduceIte, ev_isNaN, d1, d2, h1, h2, gt_iff_lt]
end Go.Proofs.Ytafonoekobkcdaa.C
