/- THE ORDER OF CHAINS, in numbers and rows: where an entry may stand, which ways there are, what is written. Conditions: none; plain definitions and laws. -/
import Derived.Test.YtmjanbhmpbhagaaLcF
set_option linter.unusedVariables false
set_option linter.unusedSimpArgs false
namespace Go.AM
/-- The first place from k on of which something holds; the row's end, if there is none. (Behind so many steps.) -/
def firstN (p : Sl → Bool) (l : List Sl) : Nat → Nat → Nat
  | 0, k => k
  | f + 1, k => match l[k]? with
    | some s => if p s then k else firstN p l f (k + 1)
    | none => k
/-- One more than the last place ahead of k of which something holds; 0: there is none. -/
def lastN (p : Sl → Bool) (l : List Sl) : Nat → Nat
  | 0 => 0
  | k + 1 => match l[k]? with
    | some s => if p s then k + 1 else lastN p l k
    | none => lastN p l k
def lowN (l : List Sl) (k : Nat) (x : En) : Nat := firstN (fun s => s.ok && x.above s.e) l (l.length - k) k
def hiN (l : List Sl) (k : Nat) (x : En) : Nat := lastN (fun s => s.ok && s.e.above x) l k
theorem firstN_ge (p : Sl → Bool) (l : List Sl) : ∀ f k, k ≤ firstN p l f k
  | 0, k => Nat.le_refl _
  | f + 1, k => by
    rw [firstN]
    split
    · split
      · exact Nat.le_refl _
      · exact Nat.le_trans (Nat.le_succ _) (firstN_ge p l f (k + 1))
    · exact Nat.le_refl _
theorem firstN_le (p : Sl → Bool) (l : List Sl) : ∀ f k, k ≤ l.length → firstN p l f k ≤ l.length
  | 0, k, h => h
  | f + 1, k, h => by
    rw [firstN]
    split
    · rename_i s hs
      split
      · exact h
      · exact firstN_le p l f (k + 1) (List.getElem?_eq_some_iff.1 hs).1
    · exact h
theorem firstN_at (p : Sl → Bool) (l : List Sl) : ∀ f k, l.length ≤ k + f → firstN p l f k < l.length → ∃ s, l[firstN p l f k]? = some s ∧ p s = true
  | 0, k, h, g => by rw [firstN] at g; omega
  | f + 1, k, h, g => by
    rw [firstN] at g ⊢
    split
    · rename_i s hs
      rw [hs] at g
      simp only at g
      split
      · rename_i hp; exact ⟨s, hs, hp⟩
      · rename_i hp
        rw [if_neg hp] at g
        exact firstN_at p l f (k + 1) (by omega) g
    · rename_i hs
      rw [hs] at g
      rw [List.getElem?_eq_none_iff] at hs
      simp only at g; omega
theorem firstN_not (p : Sl → Bool) (l : List Sl) : ∀ f k j s, k ≤ j → j < firstN p l f k → l[j]? = some s → p s = false
  | 0, k, j, s, h1, h2, hs => by rw [firstN] at h2; omega
  | f + 1, k, j, s, h1, h2, hs => by
    rw [firstN] at h2
    split at h2
    · rename_i s' hs'
      split at h2
      · omega
      · rename_i hp
        by_cases e : j = k
        · subst e; rw [hs] at hs'; cases hs'; simpa using hp
        · exact firstN_not p l f (k + 1) j s (by omega) h2 hs
    · omega
theorem lastN_le (p : Sl → Bool) (l : List Sl) : ∀ k, lastN p l k ≤ k
  | 0 => Nat.le_refl _
  | k + 1 => by
    rw [lastN]
    have := lastN_le p l k
    split
    · split <;> omega
    · omega
theorem lastN_at (p : Sl → Bool) (l : List Sl) : ∀ k j, lastN p l k = j + 1 → ∃ s, l[j]? = some s ∧ p s = true
  | 0, j, h => by rw [lastN] at h; omega
  | k + 1, j, h => by
    rw [lastN] at h
    split at h
    · rename_i s hs
      split at h
      · rename_i hp
        have : j = k := by omega
        subst this; exact ⟨s, hs, hp⟩
      · exact lastN_at p l k j h
    · exact lastN_at p l k j h
theorem lastN_not (p : Sl → Bool) (l : List Sl) : ∀ k j s, lastN p l k ≤ j → j < k → l[j]? = some s → p s = false
  | 0, j, s, h1, h2, hs => by omega
  | k + 1, j, s, h1, h2, hs => by
    rw [lastN] at h1
    split at h1
    · rename_i s' hs'
      split at h1
      · omega
      · rename_i hp
        by_cases e : j = k
        · subst e; rw [hs] at hs'; cases hs'; simpa using hp
        · exact lastN_not p l k j s h1 (by omega) hs
    · rename_i hs'
      by_cases e : j = k
      · subst e; rw [hs] at hs'; cases hs'
      · exact lastN_not p l k j s h1 (by omega) hs
/-- The places that are not valid, from i on, ahead of j. -/
def frees (l : List Sl) (i j : Nat) : List Nat := (List.range' i (j - i)).filter fun k => (l[k]?.map (·.ok)) == some false
theorem frees_self (l : List Sl) (i : Nat) : frees l i i = [] := by simp [frees]
theorem frees_none (l : List Sl) {i j : Nat} (h : j ≤ i) : frees l i j = [] := by unfold frees; rw [show j - i = 0 by omega]; rfl
theorem frees_snoc {l : List Sl} {i k : Nat} {s : Sl} (hik : i ≤ k) (hs : l[k]? = some s) : frees l i (k + 1) = frees l i k ++ (if s.ok then [] else [k]) := by
  unfold frees
  rw [show k + 1 - i = (k - i) + 1 by omega, List.range'_1_concat, List.filter_append, show i + (k - i) = k by omega]
  congr 1
  rw [List.filter_cons, hs]
  cases h : s.ok <;> simp [h]
theorem mem_frees {l : List Sl} {i j k : Nat} : k ∈ frees l i j ↔ i ≤ k ∧ k < j ∧ ∃ s, l[k]? = some s ∧ s.ok = false := by
  unfold frees
  rw [List.mem_filter, List.mem_range'_1]
  constructor
  · rintro ⟨⟨h1, h2⟩, h3⟩
    rw [beq_iff_eq, Option.map_eq_some_iff] at h3
    exact ⟨h1, by omega, h3⟩
  · rintro ⟨h1, h2, s, h3, h4⟩
    exact ⟨⟨h1, by omega⟩, by simp [h3, h4]⟩
/-- As Go tells it: below 0, there is none. -/
def optI : Option Nat → Int
  | some k => (k : Int)
  | none => -1
/-- A way down, from a place on. -/
def wayB (l : List Sl) : Nat → Nat → List Nat → List Nat
  | 0, _, _ => []
  | f + 1, at', way => match l[at']? with
    | none => []
    | some s => match (frees l (at' + 1) (lowN l (at' + 1) s.e)).head? with
      | some k => way ++ [at', k]
      | none => wayB l f (lowN l (at' + 1) s.e) (way ++ [at'])
/-- A way up, from one ahead of a place on. -/
def wayA (l : List Sl) : Nat → Nat → List Nat → List Nat
  | 0, _, _ => []
  | f + 1, a, way => match a with
    | 0 => []
    | a + 1 => match l[a]? with
      | none => []
      | some s => match (frees l (hiN l a s.e) a).getLast? with
        | some k => way ++ [a, k]
        | none => wayA l f (hiN l a s.e) (way ++ [a])
def pairsW (l : List Sl) : List Nat → List Wr
  | [] => []
  | [_] => []
  | a :: b :: r => pairsW l (b :: r) ++ [⟨(b : Int), (l[a]?).getD Sl.z⟩]
theorem pairsW_snoc (l : List Sl) (w : List Nat) (a b : Nat) : pairsW l (w ++ [a, b]) = ⟨(b : Int), (l[a]?).getD Sl.z⟩ :: pairsW l (w ++ [a]) := by
  induction w with
  | nil => rfl
  | cons c w ih =>
    cases w with
    | nil => rfl
    | cons d w =>
      show pairsW l (d :: (w ++ [a, b])) ++ _ = _ :: (pairsW l (d :: (w ++ [a])) ++ _)
      rw [show d :: (w ++ [a, b]) = (d :: w) ++ [a, b] from rfl, ih]
      rfl
theorem pairsW_len (l : List Sl) : ∀ w : List Nat, (pairsW l w).length = w.length - 1
  | [] => rfl
  | [_] => rfl
  | a :: b :: r => by
    have := pairsW_len l (b :: r)
    simp only [pairsW, List.length_append, this, List.length_cons, List.length_nil]; omega
/-- A way's writes; of no way there are none. -/
def writesW (l : List Sl) (x : En) : List Nat → List Wr
  | [] => []
  | a :: r => pairsW l (a :: r) ++ [⟨(a : Int), ⟨true, x⟩⟩]
theorem writesW_len (l : List Sl) (x : En) (w : List Nat) : (writesW l x w).length = w.length := by
  cases w with
  | nil => rfl
  | cons a r => rw [writesW, List.length_append, pairsW_len]; simp
/-- The writes that have an entry stand, or why there are none. -/
def caoW (l : List Sl) (x : En) : List Wr × Int :=
  if x.right = false then ([], 1) else
  if ordered (ents l) = false ∨ lowN l 0 x < hiN l l.length x then ([], 7) else
  match (frees l (hiN l l.length x) (lowN l 0 x)).head? with
  | some k => (writesW l x [k], 0)
  | none =>
    let b := wayB l (l.length + 1) (lowN l 0 x) []
    let a := wayA l (l.length + 1) (hiN l l.length x) []
    if b.length + a.length = 0 then ([], 3) else
    if b.length = 0 ∨ (0 < a.length ∧ a.length < b.length) then (writesW l x a, 0) else (writesW l x b, 0)
/-- A whole number in a slice. -/
def nC (k : Nat) : List AV := [.int .i64 (k : Int)]
theorem nC_len (k : Nat) : (nC k).length = 1 := rfl
theorem nC_fl (k : Nat) : AV.flats (nC k) = true := rfl
theorem nC_get (k : Nat) : (nC k)[0]? = some (.int .i64 (k : Int)) := rfl
attribute [go_sem] nC_len nC_get
end Go.AM
