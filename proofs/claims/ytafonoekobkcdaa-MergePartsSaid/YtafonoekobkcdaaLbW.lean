/- THE TRIE'S Put: what it comes to. Conditions: the trie's blocks stand as told. -/
import Derived.Test.YtafonoekobkcdaaLbV
set_option linter.unusedVariables false
set_option linter.unusedSimpArgs false
namespace Go.Proofs.Ytafonoekobkcdaa.C
open Go.AM
variable {hook : Nat → Nat → List AV → Heap → Option (AV × Heap)} {lim : Nat} {H : Heap}
variable {B tid : Nat} {w many : Int} {lid lv : Nat} {lm : Bool} {fid : Nat} {fv : AV} {lc : List AV} {nn : Nat} {fr : List Nat} {N : List Bool → Nat} {T : List Bool → Int}

def routeA (a : Adr) (n x : Int) : AV := .agg [u64 (hi a), u64 (lo a), .int .i64 n, .int .i64 x]
theorem getV_tup (w : Int) (T : List Bool → Int) (a : Adr) (n : Int) : ∃ cs : List AV, cs.length = 4 ∧ putCells [u64 0#64, u64 0#64, .int .i64 0, .int .i64 0] 0 cs = cs ∧ getV w T a n = .tup [.agg cs, .bool (rightP w a n && decide (T (pth a n.toNat) ≠ 0))] := by
  unfold getV
  split
  · rename_i h; exact ⟨[u64 (hi a), u64 (lo a), .int .i64 n, .int .i64 (T (pth a n.toNat))], rfl, rfl, by simp [h.1, h.2]⟩
  · rename_i h
    refine ⟨[u64 0#64, u64 0#64, .int .i64 0, .int .i64 0], rfl, rfl, ?_⟩
    have : (rightP w a n && decide (T (pth a n.toNat) ≠ 0)) = false := by
      rw [Bool.and_eq_false_iff]
      by_cases h1 : rightP w a n = true
      · right; simp; exact Decidable.byContradiction fun g => h ⟨h1, g⟩
      · left; simpa using h1
    rw [this]
/-- What stands behind k steps of the way. -/
structure PutInv (B : Nat) (H0 : Heap) (a : Adr) (tid : Nat) (w many : Int) (lid0 fid nn0 : Nat) (N0 : List Bool → Nat) (T : List Bool → Int) (rc : List AV) (n0 k : Nat) (H' : Heap)
    (lid lv : Nat) (lm : Bool) (fv : AV) (lc : List AV) (nn : Nat) (fr : List Nat) (N : List Bool → Nat) : Prop where
  hp : Hp B H' tid w many lid lv lm fid fv lc nn fr
  rep : Rep lc nn fr N T
  box : H'[n0]? = some (.rw 0 4 rc)
  kept : Kept (own tid lid0 fid) H0 H'
  lid : lid = lid0 ∨ H0.length ≤ lid
  nn : nn ≤ nn0 + k
  nodes : ∀ q, N q ≠ 0 ↔ N0 q ≠ 0 ∨ q <+: pth a k
theorem own_kept {tid lid0 lid fid : Nat} {H0 H H' : Heap} (h : Kept (own tid lid0 fid) H0 H) (h' : Kept (own tid lid fid) H H') (hl : lid = lid0 ∨ H0.length ≤ lid) : Kept (own tid lid0 fid) H0 H' := by
  refine h.trans h' (fun i _ hi => hi) (fun i hi hm => ?_)
  simp only [own, List.mem_cons, List.not_mem_nil, or_false] at hm ⊢
  rcases hm with h | h | h
  · exact Or.inl h
  · rcases hl with g | g
    · right; left; omega
    · omega
  · exact Or.inr (Or.inr h)
end Go.Proofs.Ytafonoekobkcdaa.C
