/- THE TRIE'S FUNCTIONS THAT CHANGE IT: what each comes to. Conditions: the trie's blocks stand as told. -/
import Derived.Test.YtafonoekobkcdaaLbU
import Derived.Test.YtafonoekobkcdaaAm20
set_option linter.unusedVariables false
set_option linter.unusedSimpArgs false
namespace Go.Proofs.Ytafonoekobkcdaa.C
open Go.AM
variable {hook : Nat → Nat → List AV → Heap → Option (AV × Heap)} {lim : Nat} {H : Heap}

def FreeIs (B : Nat) (H : Heap) (tid lid fid : Nat) (fv : AV) (fr : List Nat) : Prop :=
  (fr = [] ∧ fv = .nils ∧ fid = tid) ∨ ∃ fver fl fc, fv = .sl fid fver 0 fr.length fl ∧ H[fid]? = some (.rw fver 1 fc) ∧ fc.take fr.length = fr.map (fun (i : Nat) => AV.int .i64 (i : Int)) ∧ B ≤ fid ∧ fid ≠ tid ∧ fid ≠ lid
/-- The trie's blocks. -/
structure Hp (B : Nat) (H : Heap) (tid : Nat) (w many : Int) (lid lv : Nat) (lm : Bool) (fid : Nat) (fv : AV) (lc : List AV) (nn : Nat) (fr : List Nat) : Prop where
  top : H[tid]? = some (.rw 0 4 [.int .i64 w, .int .i64 many, .sl lid lv 0 nn lm, fv])
  nod : H[lid]? = some (.rw lv 3 lc)
  len : lc.length = nn * 3
  fre : FreeIs B H tid lid fid fv fr
  b1 : B ≤ tid
  b2 : B ≤ lid
  ne : lid ≠ tid
  small : nn < 1000000
variable {B tid : Nat} {w many : Int} {lid lv : Nat} {lm : Bool} {fid : Nat} {fv : AV} {lc : List AV} {nn : Nat} {fr : List Nat} {N : List Bool → Nat} {T : List Bool → Int}
theorem Hp.sees (h : Hp B H tid w many lid lv lm fid fv lc nn fr) (r : Rep lc nn fr N T) : Sees H tid w many lid lv lm fv lc nn fr N T := ⟨Heap.cells_of h.top, Heap.cells_of h.nod, r, h.small⟩
theorem FreeIs.keep {H' : Heap} (h : FreeIs B H tid lid fid fv fr) (hk : ∀ i, i = fid → i ≠ tid → i ≠ lid → H'[i]? = H[i]?) : FreeIs B H' tid lid fid fv fr := by
  rcases h with h | ⟨fver, fl, fc, h1, h2, h3, h4, h5, h6⟩
  · exact Or.inl h
  · exact Or.inr ⟨fver, fl, fc, h1, by rw [hk fid rfl h5 h6]; exact h2, h3, h4, h5, h6⟩
theorem FreeIs.lenV (h : FreeIs B H tid lid fid fv fr) : lenV H fv = some (.int .i64 (fr.length : Int)) := by
  rcases h with ⟨rfl, rfl, _⟩ | ⟨fver, fl, fc, rfl, h2, _⟩
  · rfl
  · simp [Go.AM.lenV, Heap.cells_of h2]
theorem Hp.app (h : Hp B H tid w many lid lv lm fid fv lc nn fr) (L : Heap) : Hp B (H ++ L) tid w many lid lv lm fid fv lc nn fr := by
  refine ⟨Heap.app_of h.top L, Heap.app_of h.nod L, h.len, ?_, h.b1, h.b2, h.ne, h.small⟩
  rcases h.fre with h | ⟨fver, fl, fc, h1, h2, h3⟩
  · exact Or.inl h
  · exact Or.inr ⟨fver, fl, fc, h1, Heap.app_of h2 L, h3⟩
/-- The blocks that are the trie's. -/
def own (tid lid fid : Nat) : List Nat := [tid, lid, fid]

end Go.Proofs.Ytafonoekobkcdaa.C
