/- THE TRIE'S FUNCTIONS THAT ONLY LOOK: what each comes to. Conditions: the trie's blocks stand as told. -/
import Derived.Test.YtafonoekobkcdaaLbB
import Derived.Test.YtafonoekobkcdaaLbT
set_option linter.unusedVariables false
set_option linter.unusedSimpArgs false
namespace Go.Proofs.Ytafonoekobkcdaa.C
open Go.AM
variable {hook : Nat → Nat → List AV → Heap → Option (AV × Heap)} {lim : Nat} {H : Heap}

/-- A trie stands in the heap: its block, its nodes' block. -/
structure Sees (H : Heap) (tid : Nat) (w many : Int) (lid lv : Nat) (lm : Bool) (fv : AV) (lc : List AV) (nn : Nat) (fr : List Nat) (N : List Bool → Nat) (T : List Bool → Int) : Prop where
  top : H.cells tid 0 = some [.int .i64 w, .int .i64 many, .sl lid lv 0 nn lm, fv]
  nodes : H.cells lid lv = some lc
  rep : Rep lc nn fr N T
  small : nn < 1000000
variable {tid : Nat} {w many : Int} {lid lv : Nat} {lm : Bool} {fv : AV} {lc : List AV} {nn : Nat} {fr : List Nat} {N : List Bool → Nat} {T : List Bool → Int}
theorem Sees.top' (h : Sees H tid w many lid lv lm fv lc nn fr N T) (L : Heap) : Heap.cells (H ++ L) tid 0 = some [.int .i64 w, .int .i64 many, .sl lid lv 0 nn lm, fv] := Heap.cells_old h.top
theorem Sees.nodes' (h : Sees H tid w many lid lv lm fv lc nn fr N T) (L : Heap) : Heap.cells (H ++ L) lid lv = some lc := Heap.cells_old h.nodes
theorem Sees.more (h : Sees H tid w many lid lv lm fv lc nn fr N T) (L : Heap) : Sees (H ++ L) tid w many lid lv lm fv lc nn fr N T := ⟨h.top' L, h.nodes' L, h.rep, h.small⟩
theorem down_pth (h : Rep lc nn fr N T) (a : Adr) (k n : Nat) (hk : k ≤ n) (e : N (pth a k) = 0) : N (pth a n) = 0 := by
  induction n with
  | zero => have : k = 0 := by omega
            subst this; exact e
  | succ n ih =>
    by_cases hn : k = n + 1
    · subst hn; exact e
    · rw [pth_succ]; exact h.down _ _ (ih (by omega))

/-- The route of a prefix, or nothing. -/
def getV (w : Int) (T : List Bool → Int) (a : Adr) (n : Int) : AV :=
  if rightP w a n = true ∧ T (pth a n.toNat) ≠ 0 then .tup [.agg [u64 (hi a), u64 (lo a), .int .i64 n, .int .i64 (T (pth a n.toNat))], .bool true] else .tup [.agg [u64 0#64, u64 0#64, .int .i64 0, .int .i64 0], .bool false]
/-- The last route ahead of so many bits. -/
def lastB (T : List Bool → Int) (a : Adr) : Nat → Option Nat
  | 0 => none
  | k + 1 => if T (pth a k) ≠ 0 then some k else lastB T a k
def routeC (T : List Bool → Int) (a : Adr) : Option Nat → List AV
  | some k => [u64 (hi (cutA a k)), u64 (lo (cutA a k)), .int .i64 (k : Int), .int .i64 (T (pth a k))]
  | none => [u64 0#64, u64 0#64, .int .i64 0, .int .i64 0]
def actOf (T : List Bool → Int) (a : Adr) : Option Nat → Int
  | some k => T (pth a k)
  | none => 0
def lastV (T : List Bool → Int) (a : Adr) (o : Option Nat) : AV := .tup [.agg (routeC T a o), .bool (decide (0 < actOf T a o))]
theorem lastB_stop (T : List Bool → Int) (a : Adr) (k n : Nat) (h : ∀ j, k ≤ j → T (pth a j) = 0) (hk : k ≤ n) : lastB T a n = lastB T a k := by
  induction n with
  | zero => have : k = 0 := by omega
            subst this; rfl
  | succ n ih =>
    by_cases e : k = n + 1
    · subst e; rfl
    · rw [lastB, if_neg (fun g => g (h n (by omega))), ih (by omega)]
theorem routeC_flats (T : List Bool → Int) (a : Adr) (o : Option Nat) : AV.flats (routeC T a o) = true := by cases o <;> rfl
theorem routeC_len (T : List Bool → Int) (a : Adr) (o : Option Nat) : (routeC T a o).length = 4 := by cases o <;> rfl
theorem routeC_3 (T : List Bool → Int) (a : Adr) (o : Option Nat) : (routeC T a o)[3]? = some (.int .i64 (actOf T a o)) := by cases o <;> rfl
theorem routeC_put (T : List Bool → Int) (a : Adr) (o : Option Nat) (x0 x1 x2 x3 : AV) : ((((routeC T a o).set 0 x0).set 1 x1).set 2 x2).set 3 x3 = [x0, x1, x2, x3] := by cases o <;> rfl
theorem routeC_take (T : List Bool → Int) (a : Adr) (o : Option Nat) : List.take 4 (routeC T a o) = routeC T a o := List.take_of_length_le (by rw [routeC_len]; exact Nat.le_refl _)
theorem zero4_put (T : List Bool → Int) (a : Adr) (o : Option Nat) : putCells [u64 0#64, u64 0#64, .int .i64 0, .int .i64 0] 0 (routeC T a o) = routeC T a o := by cases o <;> rfl
end Go.Proofs.Ytafonoekobkcdaa.C
