/- ROWS OF SLOTS AND WRITES: copies, comparisons, what is valid. Conditions: the slices show what is told. -/
import Derived.Test.YtafonoekobkcdaaLcB
set_option linter.unusedVariables false
set_option linter.unusedSimpArgs false
namespace Go.AM
/-- A step. -/
structure Stp where
  k : Int
  e : En
  deriving DecidableEq
def Stp.c (s : Stp) : List AV := [.int .i64 s.k, u64 (hi s.e.w.v), u64 (lo s.e.w.v), u64 (hi s.e.w.m), u64 (lo s.e.w.m), .int .i64 s.e.n, .int .i64 s.e.x]
theorem Stp.len (s : Stp) : s.c.length = 7 := rfl
theorem Stp.fl (s : Stp) : AV.flats s.c = true := rfl
theorem Stp.get0 (s : Stp) : s.c[0]? = some (.int .i64 s.k) := rfl
theorem Stp.get6 (s : Stp) : s.c[6]? = some (.int .i64 s.e.x) := rfl
theorem Stp.ent (s : Stp) : List.take 6 (List.drop 1 s.c) = s.e.c := rfl
theorem Stp.all (s : Stp) : List.take 7 s.c = s.c := rfl
theorem Stp.put (s : Stp) (a b d e f g h : AV) : putCells [a, b, d, e, f, g, h] 0 s.c = s.c := rfl
theorem Stp.of (k : Int) (x : En) : AV.int .i64 k :: x.c = Stp.c ⟨k, x⟩ := rfl
attribute [go_sem] Stp.len Stp.get0 Stp.get6 Stp.ent Stp.all Stp.put Stp.of
/-- What is valid. -/
def ents (l : List Sl) : List En := (l.filter (·.ok)).map (·.e)
theorem ents_snoc (l : List Sl) (x : Sl) : ents (l ++ [x]) = ents l ++ (if x.ok then [x.e] else []) := by
  unfold ents
  rw [List.filter_append, List.map_append]
  cases h : x.ok <;> simp [h]
theorem ents_le (l : List Sl) : (ents l).length ≤ l.length := by unfold ents; rw [List.length_map]; exact List.length_filter_le _ _
/-- The writes of the slots for which something holds. -/
def eachW (p : Sl → Bool) (to : Sl) : Nat → List Sl → List Wr
  | _, [] => []
  | k, s :: l => (if p s then [⟨(k : Int), to⟩] else []) ++ eachW p to (k + 1) l
theorem eachW_snoc (p : Sl → Bool) (to : Sl) (k : Nat) (l : List Sl) (x : Sl) : eachW p to k (l ++ [x]) = eachW p to k l ++ (if p x then [⟨((k + l.length : Nat) : Int), to⟩] else []) := by
  induction l generalizing k with
  | nil => simp [eachW]
  | cons s l ih => rw [List.cons_append, eachW, eachW, ih, List.append_assoc, List.length_cons, show k + 1 + l.length = k + (l.length + 1) by omega]
theorem eachW_le (p : Sl → Bool) (to : Sl) (k : Nat) (l : List Sl) : (eachW p to k l).length ≤ l.length := by
  induction l generalizing k with
  | nil => simp [eachW]
  | cons s l ih =>
    rw [eachW, List.length_append, List.length_cons]
    have := ih (k + 1)
    split <;> simp <;> omega
end Go.AM
namespace Go.Proofs.Ytafonoekobkcdaa.C
open Go.AM
variable {hook : Nat → Nat → List AV → Heap → Option (AV × Heap)} {lim : Nat} {H : Heap}
end Go.Proofs.Ytafonoekobkcdaa.C
