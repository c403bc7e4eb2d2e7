/- ADDRESSES AS ROWS OF BITS: bits, masks, what is common; plain law. Conditions: none. -/
import Derived.Test.YtmjanbhmpbhagaaAm18
set_option linter.unusedVariables false
set_option linter.unusedSimpArgs false
namespace Go.AM
/-- The address with one bit set, counted from the left. -/
def oneA (k : Nat) : Adr := BitVec.twoPow 128 (127 - k)
/-- The address whose first bits are set. -/
def maskA (n : Nat) : Adr := ~~~(BitVec.allOnes 128 >>> n)
def cutA (a : Adr) (n : Nat) : Adr := a &&& maskA n
/-- A bit, counted from the left. -/
def bitA (a : Adr) (k : Nat) : Bool := a.getMsbD k
theorem bit_hi (a : Adr) (k : Nat) (h : k < 64) : (hi a).getMsbD k = bitA a k := by
  unfold hi bitA
  rw [BitVec.getMsbD, BitVec.getMsbD, BitVec.getLsbD_extractLsb']
  have h1 : 64 - 1 - k < 64 := by omega
  have h2 : 64 + (64 - 1 - k) = 128 - 1 - k := by omega
  simp [h, h1, h2, show k < 128 by omega]
theorem bit_lo (a : Adr) (k : Nat) (h : k < 64) : (lo a).getMsbD k = bitA a (64 + k) := by
  unfold lo bitA
  rw [BitVec.getMsbD, BitVec.getMsbD, BitVec.getLsbD_extractLsb']
  have h1 : 64 - 1 - k < 64 := by omega
  have h2 : 0 + (64 - 1 - k) = 128 - 1 - (64 + k) := by omega
  simp [h, h1, h2, show 64 + k < 128 by omega]
theorem bitA_ge (a : Adr) (k : Nat) (h : 128 ≤ k) : bitA a k = false := by
  unfold bitA; rw [BitVec.getMsbD]; simp [show ¬ k < 128 by omega]
theorem bit_ext (a b : Adr) (h : ∀ k, k < 128 → bitA a k = bitA b k) : a = b := by
  apply BitVec.eq_of_getMsbD_eq
  exact h
theorem bit_and (a b : Adr) (k : Nat) : bitA (a &&& b) k = (bitA a k && bitA b k) := by unfold bitA; simp
theorem bit_or (a b : Adr) (k : Nat) : bitA (a ||| b) k = (bitA a k || bitA b k) := by unfold bitA; simp
theorem bit_xor (a b : Adr) (k : Nat) : bitA (a ^^^ b) k = (bitA a k ^^ bitA b k) := by unfold bitA; simp
theorem bit_not (a : Adr) (k : Nat) (h : k < 128) : bitA (~~~a) k = !(bitA a k) := by unfold bitA; simp [h]
theorem bit_zero (k : Nat) : bitA 0#128 k = false := by unfold bitA; simp
theorem bit_one (n k : Nat) (h : n < 128) : bitA (oneA n) k = decide (k = n) := by
  unfold bitA oneA
  rw [BitVec.getMsbD, BitVec.getLsbD_twoPow]
  rw [Bool.eq_iff_iff]
  simp only [Bool.and_eq_true, decide_eq_true_eq]
  omega
theorem bit_mask (n k : Nat) : bitA (maskA n) k = (decide (k < n) && decide (k < 128)) := by
  unfold bitA maskA
  rw [BitVec.getMsbD_not, BitVec.getMsbD, BitVec.getLsbD_ushiftRight, BitVec.getLsbD_allOnes]
  rw [Bool.eq_iff_iff]
  simp only [Bool.and_eq_true, decide_eq_true_eq, Bool.not_eq_true', Bool.and_eq_false_iff, decide_eq_false_iff_not]
  omega
theorem bit_cut (a : Adr) (n k : Nat) : bitA (cutA a n) k = (bitA a k && decide (k < n)) := by
  unfold cutA
  rw [bit_and, bit_mask]
  by_cases h : k < 128
  · simp [h]
  · rw [bitA_ge a k (by omega)]; simp
theorem mask_ge (n : Nat) (h : 128 ≤ n) : maskA n = BitVec.allOnes 128 := by
  apply bit_ext; intro k hk
  have h1 : k < n := by omega
  have h2 : 128 - 1 - k < 128 := by omega
  rw [bit_mask, bitA, BitVec.getMsbD, BitVec.getLsbD_allOnes]
  simp only [hk, h1, h2, decide_true, Bool.and_self]
theorem cut_ge (a : Adr) (n : Nat) (h : 128 ≤ n) : cutA a n = a := by
  apply bit_ext; intro k hk; rw [bit_cut]; simp [show k < n by omega]
theorem cut_cut (a : Adr) (n m : Nat) : cutA (cutA a n) m = cutA a (min n m) := by
  apply bit_ext; intro k hk; simp only [bit_cut, Bool.and_assoc]
  congr 1
  rw [Bool.eq_iff_iff]; simp only [Bool.and_eq_true, decide_eq_true_eq]; omega
theorem cut_eq (a b : Adr) (n : Nat) : cutA a n = cutA b n ↔ ∀ k, k < n → bitA a k = bitA b k := by
  constructor
  · intro h k hk
    have := congrArg (fun x => bitA x k) h
    simpa [bit_cut, hk] using this
  · intro h
    apply bit_ext; intro k _
    rw [bit_cut, bit_cut]
    by_cases hk : k < n
    · rw [h k hk]
    · simp [hk]
/-- A bit put. -/
def withA (a : Adr) (k : Nat) (b : Bool) : Adr := if b then a ||| oneA k else a &&& ~~~(oneA k)
theorem bit_with (a : Adr) (n : Nat) (b : Bool) (k : Nat) (h : n < 128) (hk : k < 128) : bitA (withA a n b) k = if k = n then b else bitA a k := by
  cases b
  · simp only [withA, Bool.false_eq_true, if_false, bit_and, bit_not _ _ hk, bit_one _ _ h]
    by_cases e : k = n <;> simp [e]
  · simp only [withA, if_true, bit_or, bit_one _ _ h]
    by_cases e : k = n <;> simp [e]
/-- How many bits from the left are the same, of n. -/
def comA (a b : Adr) : Nat → Nat → Nat
  | _, 0 => 0
  | k, m + 1 => if bitA a k = bitA b k then comA a b (k + 1) m + 1 else 0
/-- How many bits from the left are the same. -/
def commonA (a b : Adr) : Nat := comA a b 0 128
theorem comA_le (a b : Adr) : ∀ m k, comA a b k m ≤ m
  | 0, k => Nat.le_refl _
  | m + 1, k => by simp only [comA]; split; exact Nat.succ_le_succ (comA_le a b m (k + 1)); omega
theorem comA_iff (a b : Adr) : ∀ m k n, n ≤ m → (n ≤ comA a b k m ↔ ∀ j, j < n → bitA a (k + j) = bitA b (k + j))
  | 0, k, n, h => by simp only [comA]; constructor; intro _ j hj; omega; intro _; omega
  | m + 1, k, 0, h => by constructor; intro _ j hj; omega; intro _; omega
  | m + 1, k, n + 1, h => by
    simp only [comA]
    split
    · rename_i hb
      rw [Nat.succ_le_succ_iff, comA_iff a b m (k + 1) n (by omega)]
      constructor
      · intro g j hj
        cases j with
        | zero => exact hb
        | succ j => rw [show k + (j + 1) = k + 1 + j by omega]; exact g j (by omega)
      · intro g j hj
        rw [show k + 1 + j = k + (j + 1) by omega]; exact g (j + 1) (by omega)
    · rename_i hb
      constructor
      · intro g; omega
      · intro g; exact absurd (g 0 (by omega)) hb
theorem common_le (a b : Adr) : commonA a b ≤ 128 := comA_le a b 128 0
theorem common_iff (a b : Adr) (n : Nat) (h : n ≤ 128) : n ≤ commonA a b ↔ ∀ j, j < n → bitA a j = bitA b j := by
  rw [commonA, comA_iff a b 128 0 n h]; simp only [Nat.zero_add]
theorem common_cut (a b : Adr) (n : Nat) (h : n ≤ 128) : n ≤ commonA a b ↔ cutA a n = cutA b n := by rw [common_iff a b n h, cut_eq]
/-- What it is, told by its bits. -/
theorem common_eq (a b : Adr) (n : Nat) (h : n ≤ 128) (h1 : ∀ j, j < n → bitA a j = bitA b j) (h2 : n = 128 ∨ bitA a n ≠ bitA b n) : commonA a b = n := by
  have g1 := (common_iff a b n h).2 h1
  rcases h2 with rfl | h2
  · exact Nat.le_antisymm (common_le a b) g1
  · apply Nat.le_antisymm _ g1
    apply Nat.le_of_not_lt
    intro g
    have hn : n + 1 ≤ 128 := Nat.le_trans g (common_le a b)
    exact h2 ((common_iff a b (n + 1) hn).1 g n (by omega))
/-- A number's length in bits. -/
def IsLen (x n : Nat) : Prop := x < 2 ^ n ∧ (n = 0 ∨ 2 ^ (n - 1) ≤ x)
instance (x n : Nat) : Decidable (IsLen x n) := by unfold IsLen; infer_instance
theorem IsLen.shift {x n : Nat} (s : Nat) (h : IsLen (x / 2 ^ s) n) (hx : 2 ^ s ≤ x) : IsLen x (n + s) := by
  have h0 : 0 < x / 2 ^ s := Nat.div_pos hx (Nat.pow_pos (by omega))
  have hn : n ≠ 0 := by
    rintro rfl
    have := h.1
    simp at this; omega
  refine ⟨?_, Or.inr ?_⟩
  · rw [Nat.pow_add]
    exact (Nat.div_lt_iff_lt_mul (Nat.pow_pos (by omega))).1 h.1
  · have h2 : 2 ^ (n - 1) ≤ x / 2 ^ s := h.2.resolve_left hn
    rw [show n + s - 1 = (n - 1) + s by omega, Nat.pow_add]
    exact (Nat.le_div_iff_mul_le (Nat.pow_pos (by omega))).1 h2
/-- Leading zeros of a word. -/
theorem lz_spec (x : BitVec 64) (n : Nat) (h : n < 64) (h1 : 2 ^ (63 - n) ≤ x.toNat) (h2 : x.toNat < 2 ^ (64 - n)) : (∀ j, j < n → x.getMsbD j = false) ∧ x.getMsbD n = true := by
  constructor
  · intro j hj
    rw [BitVec.getMsbD, BitVec.getLsbD]
    simp only [show j < 64 by omega, decide_true, Bool.true_and]
    apply Nat.testBit_lt_two_pow
    exact Nat.lt_of_lt_of_le h2 (Nat.pow_le_pow_right (by omega) (by omega))
  · rw [BitVec.getMsbD, BitVec.getLsbD]
    simp only [h, decide_true, Bool.true_and]
    rw [show 64 - 1 - n = 63 - n by omega]
    have h3 : x.toNat / 2 ^ (63 - n) = 1 := by
      have e : 2 ^ (64 - n) = 2 * 2 ^ (63 - n) := by rw [show 64 - n = (63 - n) + 1 by omega, Nat.pow_succ]; omega
      rw [e] at h2
      apply Nat.le_antisymm
      · exact Nat.le_of_lt_succ (Nat.div_lt_of_lt_mul (by omega))
      · exact (Nat.le_div_iff_mul_le (Nat.pow_pos (by omega))).2 (by omega)
    rw [Nat.testBit, Nat.shiftRight_eq_div_pow, h3]; rfl
theorem IsLen.lz {x : BitVec 64} {n : Nat} (h : IsLen x.toNat n) (hx : x ≠ 0#64) : n ≤ 64 ∧ 64 - n < 64 ∧ (∀ j, j < 64 - n → x.getMsbD j = false) ∧ x.getMsbD (64 - n) = true := by
  have hx' : x.toNat ≠ 0 := fun h => hx (BitVec.eq_of_toNat_eq (by simpa using h))
  have hn : n ≠ 0 := by
    rintro rfl
    have := h.1
    simp at this; omega
  have h2 : 2 ^ (n - 1) ≤ x.toNat := h.2.resolve_left hn
  have h3 : n ≤ 64 := by
    apply Nat.le_of_not_lt; intro g
    have : 2 ^ 64 ≤ 2 ^ (n - 1) := Nat.pow_le_pow_right (by omega) (by omega)
    have := x.isLt; omega
  refine ⟨h3, by omega, ?_⟩
  apply lz_spec x (64 - n) (by omega)
  · rw [show 63 - (64 - n) = n - 1 by omega]; exact h2
  · rw [show 64 - (64 - n) = n by omega]; exact h.1
theorem IsLen.zero {n : Nat} (h : IsLen 0 n) : n = 0 := by
  rcases h.2 with h | h
  · exact h
  · have := Nat.pow_pos (a := 2) (n := n - 1) (by omega); omega
theorem common_hi (a b : Adr) (n : Nat) (h : IsLen (hi (a ^^^ b)).toNat n) (hx : hi (a ^^^ b) ≠ 0#64) : commonA a b = 64 - n := by
  obtain ⟨h1, h2, h3, h4⟩ := h.lz hx
  apply common_eq a b (64 - n) (by omega)
  · intro j hj
    have := h3 j hj
    rw [bit_hi _ _ (by omega), bit_xor] at this
    revert this; cases bitA a j <;> cases bitA b j <;> simp
  · right
    rw [bit_hi _ _ (by omega), bit_xor] at h4
    revert h4; cases bitA a (64 - n) <;> cases bitA b (64 - n) <;> simp
theorem common_lo (a b : Adr) (n : Nat) (h0 : hi (a ^^^ b) = 0#64) (h : IsLen (lo (a ^^^ b)).toNat n) (hn : n ≤ 64) : commonA a b = 64 + (64 - n) := by
  have hhi : ∀ j, j < 64 → bitA a j = bitA b j := by
    intro j hj
    have := congrArg (fun x => x.getMsbD j) h0
    simp only [bit_hi _ _ hj, bit_xor] at this
    revert this; cases bitA a j <;> cases bitA b j <;> simp
  by_cases hl : lo (a ^^^ b) = 0#64
  · have hn0 : n = 0 := by rw [hl] at h; exact h.zero
    subst hn0
    apply common_eq a b _ (by omega) _ (Or.inl (by omega))
    intro j hj
    by_cases hj' : j < 64
    · exact hhi j hj'
    · have := congrArg (fun x => x.getMsbD (j - 64)) hl
      simp only [bit_lo _ (j - 64) (by omega), bit_xor, show 64 + (j - 64) = j by omega] at this
      revert this; cases bitA a j <;> cases bitA b j <;> simp
  · obtain ⟨h1, h2, h3, h4⟩ := h.lz hl
    apply common_eq a b _ (by omega)
    · intro j hj
      by_cases hj' : j < 64
      · exact hhi j hj'
      · have := h3 (j - 64) (by omega)
        simp only [bit_lo _ (j - 64) (by omega), bit_xor, show 64 + (j - 64) = j by omega] at this
        revert this; cases bitA a j <;> cases bitA b j <;> simp
    · right
      rw [bit_lo _ _ (by omega), bit_xor] at h4
      revert h4; cases bitA a (64 + (64 - n)) <;> cases bitA b (64 + (64 - n)) <;> simp
theorem shl_bit (m j : Nat) (hm : m < 64) (hj : j < 64) : (1#64 <<< m).getMsbD j = decide (j = 63 - m) := by
  rw [BitVec.getMsbD, BitVec.getLsbD_shiftLeft]
  rw [Bool.eq_iff_iff]
  simp only [Bool.and_eq_true, decide_eq_true_eq, Bool.not_eq_true', decide_eq_false_iff_not, BitVec.getLsbD_one]
  omega
theorem hi_one_lt (k : Nat) (h : k < 64) : hi (oneA k) = 1#64 <<< (63 - k) := by
  apply BitVec.eq_of_getMsbD_eq
  intro j hj
  rw [bit_hi _ _ hj, bit_one _ _ (by omega), shl_bit _ _ (by omega) hj]
  rw [decide_eq_decide]; omega
theorem lo_one_lt (k : Nat) (h : k < 64) : lo (oneA k) = 0#64 := by
  apply BitVec.eq_of_getMsbD_eq
  intro j hj
  rw [bit_lo _ _ hj, bit_one _ _ (by omega)]
  simp; omega
theorem hi_one_ge (k : Nat) (h : 64 ≤ k) (h' : k < 128) : hi (oneA k) = 0#64 := by
  apply BitVec.eq_of_getMsbD_eq
  intro j hj
  rw [bit_hi _ _ hj, bit_one _ _ (by omega)]
  simp; omega
theorem lo_one_ge (k : Nat) (h : 64 ≤ k) (h' : k < 128) : lo (oneA k) = 1#64 <<< (63 - k % 64) := by
  apply BitVec.eq_of_getMsbD_eq
  intro j hj
  rw [bit_lo _ _ hj, bit_one _ _ (by omega), shl_bit _ _ (by omega) hj]
  rw [decide_eq_decide]; omega
theorem shr_bit (m j : Nat) (hj : j < 64) : (~~~(18446744073709551615#64 >>> m)).getMsbD j = decide (j < m) := by
  rw [show 18446744073709551615#64 = BitVec.allOnes 64 from rfl, BitVec.getMsbD_not, BitVec.getMsbD, BitVec.getLsbD_ushiftRight, BitVec.getLsbD_allOnes]
  rw [Bool.eq_iff_iff]
  simp only [Bool.and_eq_true, decide_eq_true_eq, Bool.not_eq_true', Bool.and_eq_false_iff, decide_eq_false_iff_not]
  omega
theorem hi_mask (n m : Nat) (h : m = min n 64) : hi (maskA n) = ~~~(18446744073709551615#64 >>> m) := by
  apply BitVec.eq_of_getMsbD_eq
  intro j hj
  rw [bit_hi _ _ hj, bit_mask, shr_bit _ _ hj, Bool.eq_iff_iff]
  simp only [Bool.and_eq_true, decide_eq_true_eq]; omega
theorem lo_mask (n m : Nat) (h : m = min (n - 64) 64) : lo (maskA n) = ~~~(18446744073709551615#64 >>> m) := by
  apply BitVec.eq_of_getMsbD_eq
  intro j hj
  rw [bit_lo _ _ hj, bit_mask, shr_bit _ _ hj, Bool.eq_iff_iff]
  simp only [Bool.and_eq_true, decide_eq_true_eq]; omega
/-- A number of bits that may be. -/
def near (n : Int) : Nat := (min (max n 0) 128).toNat
theorem near_le (n : Int) : near n ≤ 128 := by unfold near; omega
theorem near_nat (n : Nat) (h : n ≤ 128) : near (n : Int) = n := by unfold near; omega
theorem near_cast (n : Int) : ((near n : Nat) : Int) = min (max n 0) 128 := by unfold near; omega
theorem bit_test (a : Adr) (k : Nat) (h : k < 128) : (a &&& oneA k != 0#128) = bitA a k := by
  rw [Bool.eq_iff_iff, bne_iff_ne]
  constructor
  · intro g
    cases hb : bitA a k with
    | true => rfl
    | false =>
      refine absurd ?_ g
      apply bit_ext; intro j hj
      rw [bit_and, bit_one _ _ h, bit_zero]
      by_cases e : j = k
      · subst e; simp [hb]
      · simp [e]
  · intro g e
    have := congrArg (fun x => bitA x k) e
    simp [bit_and, bit_one _ _ h, bit_zero, g] at this
/- ROWS OF CELLS -/
/-- A row of truth values. -/
def bl (n : Nat) (f : Nat → Bool) : List AV := (List.range n).map fun i => .bool (f i)
theorem bl_length (n : Nat) (f : Nat → Bool) : (bl n f).length = n := by simp [bl]
theorem bl_get (n : Nat) (f : Nat → Bool) (i : Nat) (h : i < n) : (bl n f)[i]? = some (.bool (f i)) := by simp [bl, h]
theorem bl_set (n : Nat) (f : Nat → Bool) (i : Nat) (b : Bool) : (bl n f).set i (.bool b) = bl n (fun j => if j = i then b else f j) := by
  apply List.ext_getElem?
  intro j
  rw [List.getElem?_set]
  by_cases hj : j < n
  · by_cases h : i = j
    · subst h; simp [bl, hj]
    · have h' : ¬ j = i := fun g => h g.symm
      simp [bl, hj, h, h']
  · by_cases h : i = j
    · subst h; simp [bl, hj]
    · simp [bl, hj, h]
theorem bl_congr {n : Nat} {f g : Nat → Bool} (h : ∀ i, i < n → f i = g i) : bl n f = bl n g := by
  apply List.ext_getElem?
  intro j
  by_cases hj : j < n
  · simp [bl, hj, h j hj]
  · simp [bl, hj]
theorem bl_false (n : Nat) : (List.replicate n [AV.bool false]).flatten = bl n fun _ => false := by
  induction n with
  | zero => rfl
  | succ n ih => rw [List.replicate_succ', List.flatten_append, ih]; simp [bl, List.range_succ]
theorem bl_succ (n : Nat) (f : Nat → Bool) : bl (n + 1) f = bl n f ++ [.bool (f n)] := by simp [bl, List.range_succ]
theorem bl_flats (n : Nat) (f : Nat → Bool) : AV.flats (bl n f) = true := by
  induction n with
  | zero => rfl
  | succ n ih =>
    rw [bl_succ]
    have : ∀ l : List AV, AV.flats l = true → AV.flats (l ++ [.bool (f n)]) = true := by
      intro l hl
      induction l with
      | nil => rfl
      | cons a l ih => simp only [List.cons_append, AV.flats, Bool.and_eq_true] at hl ⊢; exact ⟨hl.1, ih hl.2⟩
    exact this _ ih
/-- The bits of an address, as cells. -/
def bitsC (a : Adr) : List AV := bl 128 (bitA a)
theorem odd_word (x : BitVec 64) (k : Nat) (h : k < 64) : (x >>> (63 - k) % 2#64 == 1#64) = x.getMsbD k := by
  rw [Bool.eq_iff_iff, beq_iff_eq, BitVec.getMsbD, BitVec.getLsbD, Nat.testBit]
  constructor
  · intro g
    have := congrArg BitVec.toNat g
    rw [BitVec.toNat_umod, BitVec.toNat_ushiftRight] at this
    simp only [BitVec.reduceToNat] at this
    simp only [h, decide_true, Bool.true_and, show 64 - 1 - k = 63 - k by omega, Nat.one_and_eq_mod_two, this]
    rfl
  · intro g
    simp only [h, decide_true, Bool.true_and, show 64 - 1 - k = 63 - k by omega, Nat.one_and_eq_mod_two, bne_iff_ne, ne_eq] at g
    apply BitVec.eq_of_toNat_eq
    rw [BitVec.toNat_umod, BitVec.toNat_ushiftRight]
    simp only [BitVec.reduceToNat]
    omega
theorem half_word (x : BitVec 64) (s : Nat) : (x >>> s) / 2#64 = x >>> (s + 1) := by
  apply BitVec.eq_of_toNat_eq
  rw [BitVec.toNat_udiv, BitVec.toNat_ushiftRight, BitVec.toNat_ushiftRight, Nat.shiftRight_succ]
  rfl
/- AN ADDRESS OF BITS -/
/-- The number whose binary digits are the bits from s on. -/
def vN (f : Nat → Bool) (s : Nat) : Nat → Nat
  | 0 => 0
  | n + 1 => vN f s n * 2 + (f (s + n)).toNat
theorem vN_lt (f : Nat → Bool) (s : Nat) : ∀ n, vN f s n < 2 ^ n
  | 0 => by simp [vN]
  | n + 1 => by have := vN_lt f s n; simp only [vN, Nat.pow_succ]; cases f (s + n) <;> simp <;> omega
theorem vN_bit (f : Nat → Bool) (s : Nat) : ∀ n j, j < n → (vN f s n).testBit (n - 1 - j) = f (s + j)
  | 0, j, h => by omega
  | n + 1, j, h => by
    simp only [vN]
    by_cases e : j = n
    · subst e
      rw [show j + 1 - 1 - j = 0 by omega, Nat.testBit_zero]
      cases f (s + j) <;> simp
    · have h1 : n + 1 - 1 - j = (n - 1 - j) + 1 := by omega
      have h2 : (vN f s n * 2 + (f (s + n)).toNat) / 2 = vN f s n := by cases f (s + n) <;> simp <;> omega
      rw [h1, Nat.testBit_succ, h2]
      exact vN_bit f s n j (by omega)
def ofBits (f : Nat → Bool) : Adr := mkA (BitVec.ofNat 64 (vN f 0 64)) (BitVec.ofNat 64 (vN f 64 64))
theorem word_bit (f : Nat → Bool) (s j : Nat) (h : j < 64) : (BitVec.ofNat 64 (vN f s 64)).getMsbD j = f (s + j) := by
  rw [BitVec.getMsbD, BitVec.getLsbD, BitVec.toNat_ofNat, Nat.mod_eq_of_lt (vN_lt f s 64)]
  simp only [h, decide_true, Bool.true_and]
  exact vN_bit f s 64 j h
theorem bit_of (f : Nat → Bool) (k : Nat) (h : k < 128) : bitA (ofBits f) k = f k := by
  by_cases h' : k < 64
  · rw [← bit_hi _ _ h', ofBits, hi_mk, word_bit _ _ _ h', Nat.zero_add]
  · have e : k = 64 + (k - 64) := by omega
    rw [e, ← bit_lo _ _ (by omega), ofBits, lo_mk, word_bit _ _ _ (by omega)]
theorem of_bit (a : Adr) : ofBits (bitA a) = a := bit_ext _ _ fun k h => bit_of _ k h
theorem of_congr {f g : Nat → Bool} (h : ∀ i, i < 128 → f i = g i) : ofBits f = ofBits g := bit_ext _ _ fun k hk => by rw [bit_of _ _ hk, bit_of _ _ hk, h k hk]
theorem word_step (f : Nat → Bool) (s n : Nat) : BitVec.ofNat 64 (vN f s n) * 2#64 + (if f (s + n) then 1#64 else 0#64) = BitVec.ofNat 64 (vN f s (n + 1)) := by
  simp only [vN]
  apply BitVec.eq_of_toNat_eq
  cases f (s + n) <;> simp
/- PREFIXES -/
def family (w : Int) : Bool := w == 32 || w == 128
/-- A prefix may be. -/
def rightP (w : Int) (a : Adr) (n : Int) : Bool := family w && (decide (0 ≤ n) && (decide (n ≤ w) && (cutA a n.toNat == a)))
def matchP (a : Adr) (n : Int) (b : Adr) : Bool := decide (near n ≤ commonA a b)
def coversP (a : Adr) (n : Int) (b : Adr) (m : Int) : Bool := decide (n ≤ m) && matchP a n b
def cmpA (a b : Adr) : Int := if commonA a b = 128 then 0 else if bitA b (commonA a b) then -1 else 1
def cmpP (a : Adr) (n : Int) (b : Adr) (m : Int) : Int := if cmpA a b = 0 then (if n < m then -1 else if m < n then 1 else 0) else cmpA a b
/-- A route may be. -/
def rightR (w : Int) (a : Adr) (n x : Int) : Bool := rightP w a n && (decide (1 ≤ x) && decide (x ≤ 255))
theorem family_iff (w : Int) : family w = true ↔ w = 32 ∨ w = 128 := by simp [family]
theorem rightP_iff (w : Int) (a : Adr) (n : Int) : rightP w a n = true ↔ (w = 32 ∨ w = 128) ∧ 0 ≤ n ∧ n ≤ w ∧ cutA a n.toNat = a := by
  simp only [rightP, Bool.and_eq_true, family_iff, decide_eq_true_eq, beq_iff_eq]
theorem cut_same (a : Adr) (n : Nat) : cutA a n = a ↔ ∀ k, n ≤ k → k < 128 → bitA a k = false := by
  constructor
  · intro h k hk hk'
    rw [← h, bit_cut]; simp; omega
  · intro h
    apply bit_ext; intro k hk
    rw [bit_cut]
    by_cases e : k < n
    · simp [e]
    · rw [h k (by omega) hk]; simp
end Go.AM
