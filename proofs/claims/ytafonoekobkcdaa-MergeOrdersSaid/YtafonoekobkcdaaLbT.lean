/- A TREE OF BITS IN A ROW OF NODES: plain law. Conditions: none. -/
import Derived.Test.YtafonoekobkcdaaAm19
set_option linter.unusedVariables false
set_option linter.unusedSimpArgs false
namespace Go.AM
/-- The way by the first bits of an address. -/
def pth (a : Adr) (k : Nat) : List Bool := (List.range k).map (bitA a)
theorem pth_zero (a : Adr) : pth a 0 = [] := rfl
theorem pth_succ (a : Adr) (k : Nat) : pth a (k + 1) = pth a k ++ [bitA a k] := by simp [pth, List.range_succ]
theorem pth_length (a : Adr) (k : Nat) : (pth a k).length = k := by simp [pth]
theorem pth_get (a : Adr) (n k : Nat) (h : k < n) : (pth a n)[k]? = some (bitA a k) := by simp [pth, h]
theorem pth_congr {a b : Adr} {k : Nat} (h : ∀ j, j < k → bitA a j = bitA b j) : pth a k = pth b k := by
  apply List.ext_getElem?; intro j
  by_cases hj : j < k
  · rw [pth_get _ _ _ hj, pth_get _ _ _ hj, h j hj]
  · simp [pth, hj]
theorem pth_eq_iff {a b : Adr} {n m : Nat} : pth a n = pth b m ↔ n = m ∧ ∀ j, j < n → bitA a j = bitA b j := by
  constructor
  · intro h
    have hn : n = m := by rw [← pth_length a n, h, pth_length]
    subst hn
    refine ⟨rfl, fun j hj => ?_⟩
    have := congrArg (fun l => l[j]?) h
    simpa [pth_get _ _ _ hj] using this
  · rintro ⟨rfl, h⟩; exact pth_congr h
theorem pth_cut (a : Adr) (k n : Nat) (h : k ≤ n) : pth (cutA a n) k = pth a k := pth_congr fun j hj => by rw [bit_cut]; simp; omega
/-- Canonical prefixes are told by their ways. -/
theorem pth_inj {a b : Adr} {n m : Nat} (ha : cutA a n = a) (hb : cutA b m = b) (h : pth a n = pth b m) : a = b ∧ n = m := by
  obtain ⟨rfl, hbits⟩ := pth_eq_iff.1 h
  refine ⟨?_, rfl⟩
  rw [← ha, ← hb]
  exact (cut_eq a b n).2 hbits
theorem pth_prefix_iff {a b : Adr} {n m : Nat} : pth a n <+: pth b m ↔ n ≤ m ∧ ∀ j, j < n → bitA a j = bitA b j := by
  constructor
  · intro h
    have hl := h.length_le
    rw [pth_length, pth_length] at hl
    refine ⟨hl, fun j hj => ?_⟩
    obtain ⟨r, hr⟩ := h
    have := congrArg (fun l => l[j]?) hr
    rw [pth_get _ _ _ (by omega), List.getElem?_append_left (by rw [pth_length]; exact hj), pth_get _ _ _ hj] at this
    simpa using this
  · rintro ⟨h, g⟩
    refine ⟨(pth b m).drop n, ?_⟩
    rw [pth_congr g]
    apply List.ext_getElem?; intro j
    by_cases hj : j < n
    · rw [List.getElem?_append_left (by rw [pth_length]; exact hj), pth_get _ _ _ hj, pth_get _ _ _ (by omega)]
    · rw [List.getElem?_append_right (by rw [pth_length]; omega), List.getElem?_drop, pth_length, show n + (j - n) = j by omega]
theorem pth_covers {a b : Adr} {n m : Nat} (hn : n ≤ 128) : coversP a n b m = true ↔ pth a n <+: pth b m := by
  rw [pth_prefix_iff]
  simp only [coversP, matchP, Bool.and_eq_true, decide_eq_true_eq, near_nat n hn, common_iff _ _ _ hn]
  constructor
  · rintro ⟨h1, h2⟩; exact ⟨by omega, h2⟩
  · rintro ⟨h1, h2⟩; exact ⟨by omega, h2⟩
/-- A way is of an address. -/
theorem pth_of (q : List Bool) (h : q.length ≤ 128) : ∃ a : Adr, cutA a q.length = a ∧ pth a q.length = q := by
  refine ⟨ofBits fun k => q.getD k false, ?_, ?_⟩
  · rw [cut_same]; intro k hk hk'; rw [bit_of _ _ hk']; simp [List.getD, List.getElem?_eq_none hk]
  · apply List.ext_getElem?; intro j
    by_cases hj : j < q.length
    · rw [pth_get _ _ _ hj, bit_of _ _ (by omega)]; simp [List.getD, hj]
    · rw [List.getElem?_eq_none (by rw [pth_length]; omega), List.getElem?_eq_none (by omega)]

/-- A node's three cells. -/
def NodeIs (lc : List AV) (i c0 c1 : Nat) (x : Int) : Prop := lc[i * 3]? = some (.int .i64 c0) ∧ lc[i * 3 + 1]? = some (.int .i64 c1) ∧ lc[i * 3 + 2]? = some (.int .i64 x)
structure Rep (lc : List AV) (nn : Nat) (fr : List Nat) (N : List Bool → Nat) (T : List Bool → Int) : Prop where
  len : lc.length = nn * 3
  zero : NodeIs lc 0 0 0 0
  root : N [] = 1
  lt : ∀ q, N q < nn
  up : ∀ q b, N (q ++ [b]) ≠ 0 → N q ≠ 0
  inj : ∀ q r, N q ≠ 0 → N q = N r → q = r
  node : ∀ q, N q ≠ 0 → NodeIs lc (N q) (N (q ++ [false])) (N (q ++ [true])) (T q)
  off : ∀ q, N q = 0 → T q = 0
  nodup : fr.Nodup
  free : ∀ i, i ∈ fr ↔ (0 < i ∧ i < nn ∧ ∀ q, N q ≠ i)
namespace Rep
variable {lc : List AV} {nn : Nat} {fr : List Nat} {N : List Bool → Nat} {T : List Bool → Int}
/-- Any place reads so. -/
theorem cell (h : Rep lc nn fr N T) (q : List Bool) : NodeIs lc (N q) (if N q = 0 then 0 else N (q ++ [false])) (if N q = 0 then 0 else N (q ++ [true])) (T q) := by
  by_cases e : N q = 0
  · rw [if_pos e, if_pos e, h.off q e, e]; exact h.zero
  · rw [if_neg e, if_neg e]; exact h.node q e
theorem down (h : Rep lc nn fr N T) (q : List Bool) (b : Bool) (e : N q = 0) : N (q ++ [b]) = 0 := by
  apply Decidable.byContradiction; intro g; exact h.up q b g e
theorem child (h : Rep lc nn fr N T) (q : List Bool) (b : Bool) : lc[N q * 3 + (if b then 1 else 0)]? = some (.int .i64 (N (q ++ [b]))) := by
  have := h.cell q
  by_cases e : N q = 0
  · simp only [e, if_true] at this
    rw [h.down q b e, e]
    cases b
    · exact this.1
    · exact this.2.1
  · simp only [e, if_false] at this
    cases b
    · exact this.1
    · exact this.2.1
theorem act (h : Rep lc nn fr N T) (q : List Bool) : lc[N q * 3 + 2]? = some (.int .i64 (T q)) := (h.cell q).2.2
/-- The action of a node is put. -/
theorem setAct (h : Rep lc nn fr N T) (q : List Bool) (hq : N q ≠ 0) (x : Int) : Rep (lc.set (N q * 3 + 2) (.int .i64 x)) nn fr N (fun r => if r = q then x else T r) where
  len := by rw [List.length_set]; exact h.len
  zero := by
    obtain ⟨h1, h2, h3⟩ := h.zero
    exact ⟨by rw [List.getElem?_set_ne (by omega)]; exact h1, by rw [List.getElem?_set_ne (by omega)]; exact h2, by rw [List.getElem?_set_ne (by omega)]; exact h3⟩
  root := h.root
  lt := h.lt
  up := h.up
  inj := h.inj
  node := by
    intro r hr
    obtain ⟨h1, h2, h3⟩ := h.node r hr
    have hb := h.lt q
    have hl := h.len
    by_cases e : r = q
    · subst e
      rw [if_pos rfl]
      exact ⟨by rw [List.getElem?_set_ne (by omega)]; exact h1, by rw [List.getElem?_set_ne (by omega)]; exact h2, by rw [List.getElem?_set_self (by omega)]⟩
    · have : N r ≠ N q := fun g => e (h.inj r q hr g)
      rw [if_neg e]
      exact ⟨by rw [List.getElem?_set_ne (by omega)]; exact h1, by rw [List.getElem?_set_ne (by omega)]; exact h2, by rw [List.getElem?_set_ne (by omega)]; exact h3⟩
  off := by
    intro r hr
    have : r ≠ q := by rintro rfl; exact hq hr
    rw [if_neg this]; exact h.off r hr
  nodup := h.nodup
  free := h.free
end Rep
theorem app_inj_nil {q : List Bool} {b : Bool} : q ++ [b] ≠ [] := by simp
theorem app_inj {q r : List Bool} {b c : Bool} (h : q ++ [b] = r ++ [c]) : q = r ∧ b = c := by
  have := List.append_inj' h rfl
  exact ⟨this.1, by simpa using this.2⟩
namespace Rep
variable {lc : List AV} {nn : Nat} {fr : List Nat} {N : List Bool → Nat} {T : List Bool → Int}
/-- A node is linked: its own three cells are nothing, nobody has it. lc: behind the node was made; j: its number. -/
theorem link (h : Rep lc nn fr N T) {lc1 : List AV} {nn1 : Nat} {fr1 : List Nat} {j : Nat} (hlen : lc1.length = nn1 * 3) (hnn : nn ≤ nn1) (hj : 0 < j) (hj1 : j < nn1) (hfree : ∀ q, N q ≠ j)
    (hsame : ∀ i, i ≠ j → i < nn → lc1[i * 3]? = lc[i * 3]? ∧ lc1[i * 3 + 1]? = lc[i * 3 + 1]? ∧ lc1[i * 3 + 2]? = lc[i * 3 + 2]?) (hnew : NodeIs lc1 j 0 0 0)
    (hfr : fr1.Nodup) (hfr1 : ∀ i, i ∈ fr1 ↔ (0 < i ∧ i < nn1 ∧ i ≠ j ∧ ∀ q, N q ≠ i))
    (q : List Bool) (b : Bool) (hq : N q ≠ 0) (hb : N (q ++ [b]) = 0) :
    Rep (lc1.set (N q * 3 + (if b then 1 else 0)) (.int .i64 j)) nn1 fr1 (fun r => if r = q ++ [b] then j else N r) T where
  len := by rw [List.length_set]; exact hlen
  zero := by
    obtain ⟨h1, h2, h3⟩ := h.zero
    obtain ⟨s1, s2, s3⟩ := hsame 0 (by omega) (by have := h.lt q; omega)
    have hb' : (if b then 1 else 0 : Nat) ≤ 1 := by split <;> omega
    exact ⟨by rw [List.getElem?_set_ne (by omega), s1]; exact h1, by rw [List.getElem?_set_ne (by omega), s2]; exact h2, by rw [List.getElem?_set_ne (by omega), s3]; exact h3⟩
  root := by rw [if_neg (fun g => app_inj_nil g.symm)]; exact h.root
  lt := by intro r; have := h.lt r; split <;> omega
  up := by
    intro r c hr
    by_cases e : r ++ [c] = q ++ [b]
    · obtain ⟨rfl, rfl⟩ := app_inj e
      rw [if_neg (fun g => by have := congrArg List.length g; simp at this)]
      exact hq
    · rw [if_neg e] at hr
      have := h.up r c hr
      split
      · omega
      · exact this
  inj := by
    intro r s hr hrs
    by_cases e : r = q ++ [b]
    · by_cases e' : s = q ++ [b]
      · rw [e, e']
      · rw [if_pos e, if_neg e'] at hrs
        exact absurd hrs.symm (hfree s)
    · rw [if_neg e] at hr hrs
      by_cases e' : s = q ++ [b]
      · rw [if_pos e'] at hrs; exact absurd hrs (hfree r)
      · rw [if_neg e'] at hrs; exact h.inj r s hr hrs
  node := by
    intro r hr
    have hlq := h.lt q
    have hb' : (if b then 1 else 0 : Nat) ≤ 1 := by split <;> omega
    by_cases e : r = q ++ [b]
    · subst e
      rw [if_pos rfl]
      have n1 : ∀ c, ¬ (q ++ [b] ++ [c] = q ++ [b]) := fun c g => by have := congrArg List.length g; simp at this
      rw [if_neg (n1 _), if_neg (n1 _), h.down _ _ hb, h.down _ _ hb, h.off _ hb]
      obtain ⟨h1, h2, h3⟩ := hnew
      have : N q ≠ j := hfree q
      exact ⟨by rw [List.getElem?_set_ne (by omega)]; exact h1, by rw [List.getElem?_set_ne (by omega)]; exact h2, by rw [List.getElem?_set_ne (by omega)]; exact h3⟩
    · rw [if_neg e] at hr ⊢
      obtain ⟨h1, h2, h3⟩ := h.node r hr
      have hrj : N r ≠ j := hfree r
      obtain ⟨s1, s2, s3⟩ := hsame (N r) hrj (h.lt r)
      by_cases e' : r = q
      · subst e'
        have hlt : N r * 3 + 1 < lc1.length := by have := h.lt r; omega
        cases b
        · have e1 : (if r ++ [false] = r ++ [false] then j else N (r ++ [false])) = j := if_pos rfl
          have e2 : (if r ++ [true] = r ++ [false] then j else N (r ++ [true])) = N (r ++ [true]) := if_neg (by simp)
          rw [e1, e2]
          simp only [Bool.false_eq_true, if_false, Nat.add_zero]
          exact ⟨by rw [List.getElem?_set_self (by omega)], by rw [List.getElem?_set_ne (by omega), s2]; exact h2, by rw [List.getElem?_set_ne (by omega), s3]; exact h3⟩
        · have e1 : (if r ++ [true] = r ++ [true] then j else N (r ++ [true])) = j := if_pos rfl
          have e2 : (if r ++ [false] = r ++ [true] then j else N (r ++ [false])) = N (r ++ [false]) := if_neg (by simp)
          rw [e1, e2]
          simp only [if_true]
          exact ⟨by rw [List.getElem?_set_ne (by omega), s1]; exact h1, by rw [List.getElem?_set_self (by omega)], by rw [List.getElem?_set_ne (by omega), s3]; exact h3⟩
      · rw [if_neg (fun g => e' (app_inj g).1), if_neg (fun g => e' (app_inj g).1)]
        have : N r ≠ N q := fun g => e' (h.inj r q hr g)
        exact ⟨by rw [List.getElem?_set_ne (by omega), s1]; exact h1, by rw [List.getElem?_set_ne (by omega), s2]; exact h2, by rw [List.getElem?_set_ne (by omega), s3]; exact h3⟩
  off := by
    intro r hr
    split at hr
    · omega
    · exact h.off r hr
  nodup := hfr
  free := by
    intro i
    rw [hfr1]
    constructor
    · rintro ⟨h1, h2, h3, h4⟩
      refine ⟨h1, h2, fun r => ?_⟩
      split
      · exact fun g => h3 g.symm
      · exact h4 r
    · rintro ⟨h1, h2, h3⟩
      have hji : i ≠ j := by
        have := h3 (q ++ [b]); rw [if_pos rfl] at this; exact fun g => this g.symm
      refine ⟨h1, h2, hji, fun r => ?_⟩
      have := h3 r
      by_cases e : r = q ++ [b]
      · subst e; rw [hb]; omega
      · rw [if_neg e] at this; exact this
/-- A node with nothing is unlinked. -/
theorem unlink (h : Rep lc nn fr N T) (q : List Bool) (b : Bool) (hb : N (q ++ [b]) ≠ 0) (hx : T (q ++ [b]) = 0) (hc : ∀ c, N (q ++ [b] ++ [c]) = 0) :
    Rep (lc.set (N q * 3 + (if b then 1 else 0)) (.int .i64 0)) nn (fr ++ [N (q ++ [b])]) (fun r => if r = q ++ [b] then 0 else N r) T where
  len := by rw [List.length_set]; exact h.len
  zero := by
    have hq := h.up q b hb
    obtain ⟨h1, h2, h3⟩ := h.zero
    have hb' : (if b then 1 else 0 : Nat) ≤ 1 := by split <;> omega
    exact ⟨by rw [List.getElem?_set_ne (by omega)]; exact h1, by rw [List.getElem?_set_ne (by omega)]; exact h2, by rw [List.getElem?_set_ne (by omega)]; exact h3⟩
  root := by rw [if_neg (fun g => app_inj_nil g.symm)]; exact h.root
  lt := by intro r; have := h.lt r; split <;> omega
  up := by
    intro r c hr
    by_cases e : r ++ [c] = q ++ [b]
    · rw [if_pos e] at hr; exact absurd rfl hr
    · rw [if_neg e] at hr
      by_cases e' : r = q ++ [b]
      · subst e'; exact absurd (hc c) hr
      · rw [if_neg e']; exact h.up r c hr
  inj := by
    intro r s hr hrs
    by_cases e : r = q ++ [b]
    · rw [if_pos e] at hr; exact absurd rfl hr
    · rw [if_neg e] at hr hrs
      by_cases e' : s = q ++ [b]
      · rw [if_pos e'] at hrs; exact absurd hrs hr
      · rw [if_neg e'] at hrs; exact h.inj r s hr hrs
  node := by
    intro r hr
    have hlq := h.lt q
    have hlen := h.len
    have hb' : (if b then 1 else 0 : Nat) ≤ 1 := by split <;> omega
    by_cases e : r = q ++ [b]
    · rw [if_pos e] at hr; exact absurd rfl hr
    · rw [if_neg e] at hr ⊢
      obtain ⟨h1, h2, h3⟩ := h.node r hr
      by_cases e' : r = q
      · subst e'
        cases b
        · have e1 : (if r ++ [false] = r ++ [false] then 0 else N (r ++ [false])) = 0 := if_pos rfl
          have e2 : (if r ++ [true] = r ++ [false] then 0 else N (r ++ [true])) = N (r ++ [true]) := if_neg (by simp)
          rw [e1, e2]
          simp only [Bool.false_eq_true, if_false, Nat.add_zero]
          exact ⟨by rw [List.getElem?_set_self (by omega)]; rfl, by rw [List.getElem?_set_ne (by omega)]; exact h2, by rw [List.getElem?_set_ne (by omega)]; exact h3⟩
        · have e1 : (if r ++ [true] = r ++ [true] then 0 else N (r ++ [true])) = 0 := if_pos rfl
          have e2 : (if r ++ [false] = r ++ [true] then 0 else N (r ++ [false])) = N (r ++ [false]) := if_neg (by simp)
          rw [e1, e2]
          simp only [if_true]
          exact ⟨by rw [List.getElem?_set_ne (by omega)]; exact h1, by rw [List.getElem?_set_self (by omega)]; rfl, by rw [List.getElem?_set_ne (by omega)]; exact h3⟩
      · rw [if_neg (fun g => e' (app_inj g).1), if_neg (fun g => e' (app_inj g).1)]
        have : N r ≠ N q := fun g => e' (h.inj r q hr g)
        exact ⟨by rw [List.getElem?_set_ne (by omega)]; exact h1, by rw [List.getElem?_set_ne (by omega)]; exact h2, by rw [List.getElem?_set_ne (by omega)]; exact h3⟩
  off := by
    intro r hr
    by_cases e : r = q ++ [b]
    · rw [e]; exact hx
    · rw [if_neg e] at hr; exact h.off r hr
  nodup := by
    rw [List.nodup_append]
    refine ⟨h.nodup, by simp, ?_⟩
    intro a ha c hc' e
    rw [List.mem_singleton] at hc'
    subst hc' e
    exact ((h.free _).1 ha).2.2 (q ++ [b]) rfl
  free := by
    intro i
    rw [List.mem_append, List.mem_singleton, h.free]
    constructor
    · rintro (⟨h1, h2, h3⟩ | rfl)
      · refine ⟨h1, h2, fun r => ?_⟩
        split
        · omega
        · exact h3 r
      · refine ⟨by omega, h.lt _, fun r => ?_⟩
        split
        · omega
        · rename_i e
          intro g; exact e (h.inj r _ (by omega) g)
    · rintro ⟨h1, h2, h3⟩
      by_cases e : i = N (q ++ [b])
      · exact Or.inr e
      · left
        refine ⟨h1, h2, fun r => ?_⟩
        have := h3 r
        by_cases e' : r = q ++ [b]
        · subst e'; exact fun g => e g.symm
        · rw [if_neg e'] at this; exact this
theorem free_le (h : Rep lc nn fr N T) : fr.length ≤ nn := by
  have := h.nodup.length_le_of_subset (l₂ := List.range nn) (fun i hi => List.mem_range.2 ((h.free i).1 hi).2.1)
  rwa [List.length_range] at this
theorem child0 (h : Rep lc nn fr N T) (q : List Bool) : lc[N q * 3]? = some (.int .i64 (N (q ++ [false]))) := h.child q false
theorem child1 (h : Rep lc nn fr N T) (q : List Bool) : lc[N q * 3 + 1]? = some (.int .i64 (N (q ++ [true]))) := h.child q true
end Rep
def zero3 (lc : List AV) (j : Nat) : List AV := putCells lc (j * 3) [.int .i64 0, .int .i64 0, .int .i64 0]
theorem zero3_len (lc : List AV) (j : Nat) : (zero3 lc j).length = lc.length := by simp [zero3, putCells]
theorem zero3_at (lc : List AV) (j : Nat) (h : j * 3 + 2 < lc.length) : NodeIs (zero3 lc j) j 0 0 0 := by
  simp only [zero3, putCells]
  refine ⟨?_, ?_, ?_⟩
  · rw [List.getElem?_set_ne (by omega), List.getElem?_set_ne (by omega), List.getElem?_set_self (by omega)]; rfl
  · rw [List.getElem?_set_ne (by omega), List.getElem?_set_self (by rw [List.length_set]; omega)]; rfl
  · rw [List.getElem?_set_self (by rw [List.length_set, List.length_set]; omega)]
theorem zero3_else (lc : List AV) (j i : Nat) (h : i < j * 3 ∨ j * 3 + 2 < i) : (zero3 lc j)[i]? = lc[i]? := by
  simp only [zero3, putCells]
  rw [List.getElem?_set_ne (by omega), List.getElem?_set_ne (by omega), List.getElem?_set_ne (by omega)]
theorem Rep.fresh {lc : List AV} {nn : Nat} {fr : List Nat} {N : List Bool → Nat} {T : List Bool → Int} (h : Rep lc nn fr N T) {lc1 : List AV} {nn1 : Nat} {fr1 : List Nat} {j : Nat}
    (hc : (fr = fr1 ++ [j] ∧ nn1 = nn ∧ lc1 = zero3 lc j) ∨ (fr = [] ∧ fr1 = [] ∧ j = nn ∧ nn1 = nn + 1 ∧ lc1 = lc ++ [.int .i64 0, .int .i64 0, .int .i64 0]))
    (q : List Bool) (b : Bool) (hq : N q ≠ 0) (hb : N (q ++ [b]) = 0) :
    Rep (lc1.set (N q * 3 + (if b then 1 else 0)) (.int .i64 j)) nn1 fr1 (fun r => if r = q ++ [b] then j else N r) T ∧ 0 < j ∧ j < nn1 ∧ nn ≤ nn1 ∧ nn1 ≤ nn + 1 := by
  have hl := h.len
  have hn0 := h.lt []
  rcases hc with ⟨rfl, rfl, rfl⟩ | ⟨rfl, rfl, rfl, rfl, rfl⟩
  · have hj := (h.free j).1 (by simp)
    refine ⟨?_, hj.1, hj.2.1, Nat.le_refl _, by omega⟩
    refine h.link (by rw [zero3_len]; exact hl) (Nat.le_refl _) hj.1 hj.2.1 hj.2.2 ?_ (zero3_at lc j (by omega)) ?_ ?_ q b hq hb
    · intro i hi hin
      exact ⟨zero3_else _ _ _ (by omega), zero3_else _ _ _ (by omega), zero3_else _ _ _ (by omega)⟩
    · exact (List.nodup_append.1 h.nodup).1
    · intro i
      have hm := h.free i
      rw [List.mem_append, List.mem_singleton] at hm
      constructor
      · intro hi
        have g := hm.1 (Or.inl hi)
        refine ⟨g.1, g.2.1, ?_, g.2.2⟩
        rintro rfl
        exact (List.nodup_append.1 h.nodup).2.2 _ hi _ (List.mem_singleton.2 rfl) rfl
      · rintro ⟨h1, h2, h3, h4⟩
        exact (hm.2 ⟨h1, h2, h4⟩).resolve_right h3
  · refine ⟨?_, by omega, by omega, by omega, Nat.le_refl _⟩
    refine h.link (by simp [hl]; omega) (by omega) (by omega) (by omega) (fun r => by have := h.lt r; omega) ?_ ?_ (by simp) ?_ q b hq hb
    · intro i hi hin
      exact ⟨List.getElem?_append_left (by omega), List.getElem?_append_left (by omega), List.getElem?_append_left (by omega)⟩
    · refine ⟨?_, ?_, ?_⟩
      · rw [List.getElem?_append_right (by omega), show j * 3 - lc.length = 0 by omega]; rfl
      · rw [List.getElem?_append_right (by omega), show j * 3 + 1 - lc.length = 1 by omega]; rfl
      · rw [List.getElem?_append_right (by omega), show j * 3 + 2 - lc.length = 2 by omega]; rfl
    · intro i
      have hm := h.free i
      simp only [List.not_mem_nil, false_iff, not_and] at hm ⊢
      intro h1 h2 h3 h4
      exact hm h1 (by omega) h4
end Go.AM
