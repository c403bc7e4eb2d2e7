/- SLOTS: what is found, what is told, what writes make of them; plan.each, twins. Conditions: the slices show what is told. -/
import Derived.Test.YtafonoekobkcdaaLcC
set_option linter.unusedVariables false
set_option linter.unusedSimpArgs false
namespace Go.AM
section
variable {α : Type}
/-- Where the first one is for which something holds; below 0: there is none. -/
def fIdx (p : α → Bool) : Nat → List α → Int
  | _, [] => -1
  | k, x :: l => if p x then (k : Int) else fIdx p (k + 1) l
theorem fIdx_cases (p : α → Bool) (k : Nat) (l : List α) : (fIdx p k l = -1 ∧ l.find? p = none ∧ ∀ x ∈ l, p x = false) ∨ ∃ j x, fIdx p k l = ((k + j : Nat) : Int) ∧ l[j]? = some x ∧ l.find? p = some x ∧ p x = true ∧ ∀ i y, i < j → l[i]? = some y → p y = false := by
  induction l generalizing k with
  | nil => exact Or.inl ⟨rfl, rfl, fun x h => by cases h⟩
  | cons s l ih =>
    cases h : p s
    · rcases ih (k + 1) with ⟨h1, h2, h3⟩ | ⟨j, x, h1, h2, h3, h4, h5⟩
      · refine Or.inl ⟨by rw [fIdx, h]; exact h1, by rw [List.find?_cons, h]; exact h2, fun x hx => ?_⟩
        rcases List.mem_cons.1 hx with rfl | hx
        · exact h
        · exact h3 x hx
      · refine Or.inr ⟨j + 1, x, by rw [fIdx, h]; simpa [Nat.add_assoc, Nat.add_comm, Nat.add_left_comm] using h1, h2, by rw [List.find?_cons, h]; exact h3, h4, fun i y hi hy => ?_⟩
        cases i with
        | zero => simp at hy; subst hy; exact h
        | succ i => exact h5 i y (by omega) hy
    · exact Or.inr ⟨0, s, by rw [fIdx, h]; rfl, rfl, by rw [List.find?_cons, h], h, fun i y hi => by omega⟩
end
def tells (l : List Sl) (a : Adr) : Int := match l.find? (fun s => s.ok && s.e.w.matches a) with
  | some s => s.e.x
  | none => 0
def applyW (l : List Sl) (w : List Wr) : List Sl := w.foldl (fun out x => if mayW x (out.length : Int) then out.set x.k.toNat x.s else out) l
theorem applyW_len (l : List Sl) (w : List Wr) : (applyW l w).length = l.length := by
  unfold applyW
  induction w generalizing l with
  | nil => rfl
  | cons x w ih =>
    rw [List.foldl_cons, ih]
    split
    · rw [List.length_set]
    · rfl
theorem applyW_snoc (l : List Sl) (w : List Wr) (x : Wr) : applyW l (w ++ [x]) = if mayW x ((applyW l w).length : Int) then (applyW l w).set x.k.toNat x.s else applyW l w := by
  unfold applyW; rw [List.foldl_append]; rfl
/-- Both are valid and alike. -/
def twin (s y : Sl) : Bool := s.ok && (y.ok && s.e.alike y.e)
def twinsW : List Sl → List Sl → List Wr
  | _, [] => []
  | pre, s :: l => (if pre.any (twin s) then [⟨(pre.length : Int), Sl.z⟩] else []) ++ twinsW (pre ++ [s]) l
theorem twinsW_snoc (pre l : List Sl) (x : Sl) : twinsW pre (l ++ [x]) = twinsW pre l ++ (if (pre ++ l).any (twin x) then [⟨((pre ++ l).length : Int), Sl.z⟩] else []) := by
  induction l generalizing pre with
  | nil => simp [twinsW]
  | cons s l ih => rw [List.cons_append, twinsW, twinsW, ih, List.append_assoc, List.append_assoc]; rfl
theorem twinsW_le (pre l : List Sl) : (twinsW pre l).length ≤ l.length := by
  induction l generalizing pre with
  | nil => simp [twinsW]
  | cons s l ih =>
    rw [twinsW, List.length_append, List.length_cons]
    have := ih (pre ++ [s])
    split <;> simp <;> omega
end Go.AM
namespace Go.Proofs.Ytafonoekobkcdaa.C
open Go.AM
variable {hook : Nat → Nat → List AV → Heap → Option (AV × Heap)} {lim : Nat} {H : Heap}
end Go.Proofs.Ytafonoekobkcdaa.C
