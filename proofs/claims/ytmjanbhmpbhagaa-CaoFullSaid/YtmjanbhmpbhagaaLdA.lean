/- ENTRIES IN ORDER: the comparison and the sorted row, on both sides. Conditions: the slices show what is told; at most 12 entries on the program's side. -/
import Derived.Test.YtmjanbhmpbhagaaLcF
set_option linter.unusedVariables false
set_option linter.unusedSimpArgs false
namespace Go.AM
theorem lt_testBit {x y : Nat} (i : Nat) (h1 : x.testBit i = false) (h2 : y.testBit i = true) (h3 : ∀ j, i < j → x.testBit j = y.testBit j) : x < y := by
  have e1 : x / 2 ^ (i + 1) = y / 2 ^ (i + 1) := by
    apply Nat.eq_of_testBit_eq
    intro j
    rw [Nat.testBit_div_two_pow, Nat.testBit_div_two_pow]
    exact h3 _ (by omega)
  rw [Nat.testBit_eq_decide_div_mod_eq] at h1 h2
  simp only [decide_eq_false_iff_not, decide_eq_true_eq] at h1 h2
  rw [Nat.pow_succ, ← Nat.div_div_eq_div_mul, ← Nat.div_div_eq_div_mul] at e1
  have : x / 2 ^ i < y / 2 ^ i := by omega
  exact Nat.lt_of_div_lt_div this
theorem lt_bits {a b : Adr} {c : Nat} (hc : c < 128) (h : ∀ j, j < c → bitA a j = bitA b j) (ha : bitA a c = false) (hb : bitA b c = true) : a.toNat < b.toNat := by
  have ms : ∀ (x : Adr) (j : Nat), j < 128 → bitA x j = x.toNat.testBit (127 - j) := by
    intro x j hj
    unfold bitA
    rw [BitVec.getMsbD_eq_getLsbD, ← BitVec.testBit_toNat]
    simp [hj]
  refine lt_testBit (127 - c) ?_ ?_ ?_
  · rw [← ms a c hc]; exact ha
  · rw [← ms b c hc]; exact hb
  · intro j hj
    by_cases h2 : j < 128
    · have := h (127 - j) (by omega)
      rw [ms a _ (by omega), ms b _ (by omega), show 127 - (127 - j) = j by omega] at this
      exact this
    · rw [Nat.testBit_lt_two_pow (Nat.lt_of_lt_of_le a.isLt (Nat.pow_le_pow_right (by omega) (by omega))), Nat.testBit_lt_two_pow (Nat.lt_of_lt_of_le b.isLt (Nat.pow_le_pow_right (by omega) (by omega)))]
theorem cmpA_num (a b : Adr) : cmpA a b = cmpI (a.toNat : Int) (b.toNat : Int) := by
  unfold cmpA cmpI
  have hle := common_le a b
  by_cases h : commonA a b = 128
  · have : a = b := bitA_ext fun k hk => (common_iff a b 128 (Nat.le_refl _)).1 (by omega) k hk
    rw [if_pos h, this, if_neg (by omega), if_neg (by omega)]
  · have hc : commonA a b < 128 := by omega
    have hagree := (common_iff a b (commonA a b) hle).1 (Nat.le_refl _)
    have hdiff : bitA a (commonA a b) ≠ bitA b (commonA a b) := by
      intro e
      have := (common_iff a b (commonA a b + 1) (by omega)).2 (fun j hj => by
        by_cases hj2 : j < commonA a b
        · exact hagree j hj2
        · have : j = commonA a b := by omega
          rw [this]; exact e)
      omega
    rw [if_neg h]
    cases hb : bitA b (commonA a b)
    · have ha : bitA a (commonA a b) = true := by rw [hb] at hdiff; simpa using hdiff
      have := lt_bits hc (fun j hj => (hagree j hj).symm) hb ha
      rw [if_neg (by simp), if_neg (by omega), if_pos (by omega)]
    · have ha : bitA a (commonA a b) = false := by rw [hb] at hdiff; simpa using hdiff
      have := lt_bits hc hagree ha hb
      rw [if_pos rfl, if_pos (by omega)]
theorem nat_words (a : Adr) : a.toNat = (hi a).toNat * 18446744073709551616 + (lo a).toNat := by
  have h := a.isLt
  have h' : a.toNat < 340282366920938463463374607431768211456 := h
  have e1 : (hi a).toNat = a.toNat / 18446744073709551616 := by
    unfold hi
    rw [BitVec.extractLsb'_toNat, Nat.shiftRight_eq_div_pow]
    simp only [show (2 : Nat) ^ 64 = 18446744073709551616 from rfl]
    omega
  have e2 : (lo a).toNat = a.toNat % 18446744073709551616 := by
    unfold lo
    rw [BitVec.extractLsb'_toNat, Nat.shiftRight_zero]
  rw [e1, e2]
  omega
/-- The order of a sorted row. -/
def eCmp (x y : En) : Int :=
  if cmpI y.n x.n ≠ 0 then cmpI y.n x.n else if cmpA x.w.v y.w.v ≠ 0 then cmpA x.w.v y.w.v else if cmpA x.w.m y.w.m ≠ 0 then cmpA x.w.m y.w.m else cmpI x.x y.x
def eLe (x y : En) : Bool := decide (eCmp x y ≤ 0)
theorem eCmp_eq (x y : En) : eCmp x y =
    (if y.n < x.n then -1 else if x.n < y.n then 1 else if x.w.v.toNat < y.w.v.toNat then -1 else if y.w.v.toNat < x.w.v.toNat then 1 else
     if x.w.m.toNat < y.w.m.toNat then -1 else if y.w.m.toNat < x.w.m.toNat then 1 else if x.x < y.x then -1 else if y.x < x.x then 1 else 0) := by
  unfold eCmp
  rw [cmpA_num, cmpA_num]
  unfold cmpI
  by_cases h1 : y.n < x.n
  · simp [h1]
  · by_cases h2 : x.n < y.n
    · simp [h1, h2]
    · by_cases h3 : x.w.v.toNat < y.w.v.toNat
      · simp [h1, h2, h3]
      · by_cases h4 : y.w.v.toNat < x.w.v.toNat
        · simp [h1, h2, h3, h4]
        · by_cases h5 : x.w.m.toNat < y.w.m.toNat
          · simp [h1, h2, h3, h4, h5]
          · by_cases h6 : y.w.m.toNat < x.w.m.toNat
            · simp [h1, h2, h3, h4, h5, h6]
            · simp [h1, h2, h3, h4, h5, h6]
theorem eLe_iff (x y : En) : eLe x y = true ↔ (y.n < x.n ∨ (x.n = y.n ∧ (x.w.v.toNat < y.w.v.toNat ∨ (x.w.v.toNat = y.w.v.toNat ∧ (x.w.m.toNat < y.w.m.toNat ∨ (x.w.m.toNat = y.w.m.toNat ∧ x.x ≤ y.x)))))) := by
  unfold eLe
  rw [decide_eq_true_eq, eCmp_eq]
  repeat' split
  all_goals omega
theorem eLe_trans (x y z : En) (h1 : eLe x y = true) (h2 : eLe y z = true) : eLe x z = true := by
  rw [eLe_iff] at *; omega
theorem eLe_total (x y : En) : (eLe x y || eLe y x) = true := by
  rw [Bool.or_eq_true, eLe_iff, eLe_iff]; omega
theorem eLe_anti (x y : En) (h1 : eLe x y = true) (h2 : eLe y x = true) : x = y := by
  rw [eLe_iff] at *
  have e1 : x.n = y.n := by omega
  have e2 : x.w.v.toNat = y.w.v.toNat := by omega
  have e3 : x.w.m.toNat = y.w.m.toNat := by omega
  have e4 : x.x = y.x := by omega
  obtain ⟨⟨a, b⟩, c, d⟩ := x
  obtain ⟨⟨e, f⟩, g, h⟩ := y
  simp only at e1 e2 e3 e4
  rw [BitVec.eq_of_toNat_eq e2, BitVec.eq_of_toNat_eq e3, e1, e4]
theorem eLe_refl (x : En) : eLe x x = true := by rw [eLe_iff]; omega
theorem eCmp_lt (x y : En) : eCmp x y < 0 ↔ eLe y x = false := by
  rw [← Bool.not_eq_true, eLe_iff, eCmp_eq]
  repeat' split
  all_goals omega
theorem eCmp_le (x y : En) : eCmp x y ≤ 0 ↔ eLe x y = true := by unfold eLe; rw [decide_eq_true_eq]
/-- The sorted row. -/
def eSort (l : List En) : List En := l.mergeSort eLe
def Sorted (l : List En) : Prop := l.Pairwise fun a b => eLe a b = true
theorem sort_sorted (l : List En) : Sorted (eSort l) := List.pairwise_mergeSort eLe_trans eLe_total l
theorem sort_perm (l : List En) : (eSort l).Perm l := List.mergeSort_perm l eLe
theorem sort_unique {l m : List En} (h : m.Perm l) (hs : Sorted m) : m = eSort l := by
  refine List.Perm.eq_of_pairwise ?_ hs (sort_sorted l) (h.trans (sort_perm l).symm)
  intro a b _ _ h1 h2
  exact eLe_anti a b h1 h2
theorem sort_len (l : List En) : (eSort l).length = l.length := (sort_perm l).length_eq
theorem sort_congr {l m : List En} (h : l.Perm m) : eSort l = eSort m := sort_unique ((sort_perm l).trans h) (sort_sorted l)
theorem sort_of_sorted {l : List En} (h : Sorted l) : eSort l = l := (sort_unique (List.Perm.refl l) h).symm
end Go.AM
