/- THE ABSTRACT MACHINE: words, addresses, numbers: the values' own rewriting. Conditions: none; plain lemmas. -/
import Derived.Test.YtmjanbhmpbhagaaAm16
set_option linter.unusedVariables false
set_option linter.unusedSimpArgs false
namespace Go.AM

theorem wrap_u64 (n : Int) : IntKind.wrap .u64 n = ((BitVec.ofInt 64 n).toNat : Int) := by
  simp only [IntKind.wrap, IntKind.signed, IntKind.bits, Bool.false_and, Bool.false_eq_true, if_false, BitVec.toNat_ofInt]
  omega
theorem wrap_i64 {n : Int} (h1 : -9223372036854775808 ≤ n) (h2 : n < 9223372036854775808) : IntKind.wrap .i64 n = n := by
  simp only [IntKind.wrap, IntKind.signed, IntKind.bits, Bool.true_and, decide_eq_true_eq, show (2 : Int) ^ 64 = 18446744073709551616 from rfl, show (2 : Int) ^ (64 - 1) = 9223372036854775808 from rfl]
  split <;> omega
theorem wrap_u8 {n : Int} (h1 : 0 ≤ n) (h2 : n < 256) : IntKind.wrap .u8 n = n := by
  simp only [IntKind.wrap, IntKind.signed, IntKind.bits, Bool.false_and, Bool.false_eq_true, if_false]
  omega

theorem ofInt_toNat (x : BitVec 64) : BitVec.ofInt 64 (x.toNat : Int) = x := by simp
theorem u64_zero : AV.int .u64 0 = u64 0#64 := rfl
theorem u64_one : AV.int .u64 1 = u64 1#64 := rfl
theorem u64_two : AV.int .u64 2 = u64 2#64 := rfl
theorem u64_all : AV.int .u64 18446744073709551615 = u64 18446744073709551615#64 := rfl
theorem u64_p32 : AV.int .u64 4294967296 = u64 4294967296#64 := rfl
theorem u64_p16 : AV.int .u64 65536 = u64 65536#64 := rfl
theorem u64_p8 : AV.int .u64 256 = u64 256#64 := rfl
theorem u64_lit (n : Nat) (h : n < 18446744073709551616) : AV.int .u64 (n : Int) = u64 (BitVec.ofNat 64 n) := by
  rw [u64, BitVec.toNat_ofNat, Nat.mod_eq_of_lt h]
theorem u64_ofInt (n : Int) (h0 : 0 ≤ n) (h : n < 18446744073709551616) : AV.int .u64 n = u64 (BitVec.ofInt 64 n) := by
  rw [u64, ← wrap_u64]
  congr 1
  simp only [IntKind.wrap, IntKind.signed, IntKind.bits, Bool.false_and, Bool.false_eq_true, if_false, show (2 : Int) ^ 64 = 18446744073709551616 from rfl]
  omega
theorem u64_inj {x y : BitVec 64} : u64 x = u64 y ↔ x = y := by
  constructor
  · intro h
    injection h with _ h
    exact BitVec.eq_of_toNat_eq (by omega)
  · rintro rfl; rfl

theorem binV_and (x y : BitVec 64) : binV .and (u64 x) (u64 y) = some (u64 (x &&& y)) := by
  simp only [binV, u64, if_true, binI, IntKind.bits, ofInt_toNat, wrap_u64]
  rfl
theorem binV_or (x y : BitVec 64) : binV .or (u64 x) (u64 y) = some (u64 (x ||| y)) := by
  simp only [binV, u64, if_true, binI, IntKind.bits, ofInt_toNat, wrap_u64]
  rfl
theorem binV_xor (x y : BitVec 64) : binV .xor (u64 x) (u64 y) = some (u64 (x ^^^ y)) := by
  simp only [binV, u64, if_true, binI, IntKind.bits, ofInt_toNat, wrap_u64]
  rfl
theorem binV_andNot (x y : BitVec 64) : binV .andNot (u64 x) (u64 y) = some (u64 (x &&& ~~~y)) := by
  simp only [binV, u64, if_true, binI, IntKind.bits, ofInt_toNat, wrap_u64]
  rfl
theorem unV_xor (x : BitVec 64) : unV .xor (u64 x) = some (u64 (~~~x)) := by
  have h : unV .xor (u64 x) = some (.int .u64 (IntKind.wrap .u64 ((BitVec.allOnes 64 ^^^ BitVec.ofInt 64 (x.toNat : Int)).toNat : Int))) := rfl
  rw [h, ofInt_toNat, wrap_u64, ofInt_toNat, BitVec.allOnes_xor]; rfl
theorem binV_add (x y : BitVec 64) : binV .add (u64 x) (u64 y) = some (u64 (x + y)) := by
  simp only [binV, u64, if_true, binI, wrap_u64, BitVec.ofInt_add, ofInt_toNat]
theorem binV_mul (x y : BitVec 64) : binV .mul (u64 x) (u64 y) = some (u64 (x * y)) := by
  simp only [binV, u64, if_true, binI, wrap_u64, BitVec.ofInt_mul, ofInt_toNat]
theorem binV_rem (x y : BitVec 64) (h : y ≠ 0#64) : binV .rem (u64 x) (u64 y) = some (u64 (x % y)) := by
  have hy : ¬ ((y.toNat : Int) = 0) := fun g => h (BitVec.eq_of_toNat_eq (by simpa using g))
  have e : binV .rem (u64 x) (u64 y) = if (y.toNat : Int) = 0 then none else some (.int .u64 ((x.toNat : Int).tmod y.toNat)) := rfl
  rw [e, if_neg hy, u64, BitVec.toNat_umod, Int.tmod_eq_emod_of_nonneg (by omega)]; rfl
theorem binV_quo (x y : BitVec 64) (h : y ≠ 0#64) : binV .quo (u64 x) (u64 y) = some (u64 (x / y)) := by
  have hy : ¬ ((y.toNat : Int) = 0) := fun g => h (BitVec.eq_of_toNat_eq (by simpa using g))
  have e : binV .quo (u64 x) (u64 y) = if (y.toNat : Int) = 0 then none else some (.int .u64 (IntKind.wrap .u64 ((x.toNat : Int).tdiv y.toNat))) := rfl
  rw [e, if_neg hy, wrap_u64, u64, Int.tdiv_eq_ediv_of_nonneg (by omega)]
  congr 3
  have : ((x.toNat : Int) / (y.toNat : Int)) = ((x / y).toNat : Int) := by rw [BitVec.toNat_udiv]; rfl
  rw [this, ofInt_toNat]
theorem binV_rem2 (x : BitVec 64) : binV .rem (u64 x) (u64 2#64) = some (u64 (x % 2#64)) := binV_rem x _ (by decide)
theorem binV_quo2 (x : BitVec 64) : binV .quo (u64 x) (u64 2#64) = some (u64 (x / 2#64)) := binV_quo x _ (by decide)
theorem binV_eql (x y : BitVec 64) : binV .eql (u64 x) (u64 y) = some (.bool (x == y)) := by
  simp only [binV, u64, if_true, binI, Option.some.injEq, AV.bool.injEq]
  rw [Bool.eq_iff_iff]; simp only [beq_iff_eq]
  constructor
  · intro h; exact BitVec.eq_of_toNat_eq (by omega)
  · rintro rfl; rfl
theorem u64_int_inj (x y : BitVec 64) : ((x.toNat : Int) = (y.toNat : Int)) ↔ x = y := by
  constructor
  · intro h; exact BitVec.eq_of_toNat_eq (by omega)
  · rintro rfl; rfl
theorem binV_neq (x y : BitVec 64) : binV .neq (u64 x) (u64 y) = some (.bool (x != y)) := by
  simp only [binV, u64, if_true, binI, Option.some.injEq, AV.bool.injEq]
  rw [Bool.eq_iff_iff]; simp only [bne_iff_ne, ne_eq, u64_int_inj]
theorem binV_lss (x y : BitVec 64) : binV .lss (u64 x) (u64 y) = some (.bool (decide (x < y))) := by
  simp only [binV, u64, if_true, binI, Option.some.injEq, AV.bool.injEq, decide_eq_decide, BitVec.lt_def]; omega
theorem binV_gtr (x y : BitVec 64) : binV .gtr (u64 x) (u64 y) = some (.bool (decide (y < x))) := by
  simp only [binV, u64, if_true, binI, Option.some.injEq, AV.bool.injEq, decide_eq_decide, BitVec.lt_def]; omega
theorem binV_geq (x y : BitVec 64) : binV .geq (u64 x) (u64 y) = some (.bool (decide (y ≤ x))) := by
  simp only [binV, u64, if_true, binI, Option.some.injEq, AV.bool.injEq, decide_eq_decide, BitVec.le_def]; omega
theorem binV_shl (x : BitVec 64) (k : IntKind) (n : Nat) : binV .shl (u64 x) (.int k n) = some (u64 (x <<< n)) := by
  simp only [binV, u64, binI, wrap_u64, IntKind.bits]
  rw [if_neg (by omega)]
  simp only [Option.some.injEq, AV.int.injEq, true_and, Int.toNat_natCast]
  congr 1
  rw [BitVec.toNat_ofInt, BitVec.toNat_shiftLeft, Nat.shiftLeft_eq]
  rcases Nat.le_total n 64 with h | h
  · rw [Nat.min_eq_left h]
    have : ((x.toNat : Int) * 2 ^ n) = ((x.toNat * 2 ^ n : Nat) : Int) := by push_cast; rfl
    rw [this]; norm_cast
  · rw [Nat.min_eq_right h]
    have h1 : x.toNat * 2 ^ n % 2 ^ 64 = 0 := by
      obtain ⟨k, rfl⟩ : ∃ k, n = 64 + k := ⟨n - 64, by omega⟩
      rw [Nat.pow_add, Nat.mul_left_comm, Nat.mul_mod_right]
    have h2 : ((x.toNat : Int) * 2 ^ 64) % ((2 ^ 64 : Nat) : Int) = 0 := by
      exact Int.mul_emod_left _ _
    rw [h1, h2]; rfl
theorem binV_shr (x : BitVec 64) (k : IntKind) (n : Nat) : binV .shr (u64 x) (.int k n) = some (u64 (x >>> n)) := by
  simp only [binV, u64, binI, IntKind.bits]
  rw [if_neg (by omega)]
  simp only [Option.some.injEq, AV.int.injEq, true_and, Int.toNat_natCast, BitVec.toNat_ushiftRight, Nat.shiftRight_eq_div_pow]
  rw [Int.fdiv_eq_ediv_of_nonneg _ (by exact Int.pow_nonneg (by omega))]
  rcases Nat.le_total n 64 with h | h
  · rw [Nat.min_eq_left h]
    have : ((x.toNat : Int) / 2 ^ n) = ((x.toNat / 2 ^ n : Nat) : Int) := by push_cast; rfl
    exact this
  · rw [Nat.min_eq_right h]
    have h0 := x.isLt
    have h1 : x.toNat / 2 ^ n = 0 := Nat.div_eq_of_lt (Nat.lt_of_lt_of_le h0 (Nat.pow_le_pow_right (by omega) h))
    have h2 : x.toNat / 2 ^ 64 = 0 := Nat.div_eq_of_lt h0
    rw [h1]
    have : ((x.toNat : Int) / ((2 ^ 64 : Nat) : Int)) = ((x.toNat / 2 ^ 64 : Nat) : Int) := (Int.natCast_ediv _ _).symm
    rw [h2] at this
    exact this
theorem binV_shl_u (x : BitVec 64) (n : BitVec 64) : binV .shl (u64 x) (u64 n) = some (u64 (x <<< n.toNat)) := binV_shl x .u64 n.toNat
theorem binV_shr_u (x : BitVec 64) (n : BitVec 64) : binV .shr (u64 x) (u64 n) = some (u64 (x >>> n.toNat)) := binV_shr x .u64 n.toNat
theorem conv_u64 (n : Int) : AV.int .u64 (IntKind.wrap .u64 n) = u64 (BitVec.ofInt 64 n) := by rw [wrap_u64, u64]
theorem eqLeaf_u64 (x y : BitVec 64) : eqLeaf .int (u64 x) (u64 y) = some (x == y) := by
  have h : eqLeaf .int (u64 x) (u64 y) = some ((x.toNat : Int) == (y.toNat : Int)) := rfl
  rw [h]
  congr 1
  rw [Bool.eq_iff_iff]; simp only [beq_iff_eq, u64_int_inj]
theorem flat_u64 (x : BitVec 64) : (u64 x).flat = true := rfl
theorem cellsOf_u64 (x : BitVec 64) : (u64 x).cellsOf = some [u64 x] := rfl

/- ADDRESSES: rows of 128 bits -/
abbrev Adr := BitVec 128
def hi (a : Adr) : BitVec 64 := a.extractLsb' 64 64
def lo (a : Adr) : BitVec 64 := a.extractLsb' 0 64
def mkA (h l : BitVec 64) : Adr := h ++ l
def aC (a : Adr) : List AV := [u64 (hi a), u64 (lo a)]
def aV (a : Adr) : AV := .agg (aC a)
theorem hi_mk (h l : BitVec 64) : hi (mkA h l) = h := by
  unfold hi mkA
  apply BitVec.eq_of_getLsbD_eq
  intro i hi
  rw [BitVec.getLsbD_extractLsb', BitVec.getLsbD_append]
  have h1 : ¬ (64 + i < 64) := by omega
  have h2 : 64 + i - 64 = i := by omega
  simp [hi, h1, h2]
theorem lo_mk (h l : BitVec 64) : lo (mkA h l) = l := by
  unfold lo mkA
  apply BitVec.eq_of_getLsbD_eq
  intro i hi
  rw [BitVec.getLsbD_extractLsb', BitVec.getLsbD_append]
  simp [hi]
theorem mk_hi_lo (a : Adr) : mkA (hi a) (lo a) = a := by
  unfold mkA hi lo
  apply BitVec.eq_of_getLsbD_eq
  intro i hi
  rw [BitVec.getLsbD_append]
  by_cases h : i < 64
  · simp [h, BitVec.getLsbD_extractLsb']
  · have h2 : i - 64 < 64 := by omega
    have h3 : 64 + (i - 64) = i := by omega
    simp [h, BitVec.getLsbD_extractLsb', h2, h3]
theorem hi_and (a b : Adr) : hi (a &&& b) = hi a &&& hi b := by unfold hi; ext i h; simp
theorem lo_and (a b : Adr) : lo (a &&& b) = lo a &&& lo b := by unfold lo; ext i h; simp
theorem hi_or (a b : Adr) : hi (a ||| b) = hi a ||| hi b := by unfold hi; ext i h; simp
theorem lo_or (a b : Adr) : lo (a ||| b) = lo a ||| lo b := by unfold lo; ext i h; simp
theorem hi_xor (a b : Adr) : hi (a ^^^ b) = hi a ^^^ hi b := by unfold hi; ext i h; simp
theorem lo_xor (a b : Adr) : lo (a ^^^ b) = lo a ^^^ lo b := by unfold lo; ext i h; simp
theorem hi_not (a : Adr) : hi (~~~a) = ~~~(hi a) := by
  unfold hi; ext i h; simp [BitVec.getElem_extractLsb', BitVec.getLsbD_not]; omega
theorem lo_not (a : Adr) : lo (~~~a) = ~~~(lo a) := by
  unfold lo; ext i h; simp [BitVec.getElem_extractLsb', BitVec.getLsbD_not]; omega
theorem hi_zero : hi 0#128 = 0#64 := by rfl
theorem lo_zero : lo 0#128 = 0#64 := by rfl
theorem aV_eq_iff (a b : Adr) : a = b ↔ hi a = hi b ∧ lo a = lo b := by
  constructor
  · rintro rfl; exact ⟨rfl, rfl⟩
  · rintro ⟨h, l⟩; rw [← mk_hi_lo a, ← mk_hi_lo b, h, l]
theorem beqA (a b : Adr) : ((hi a == hi b) && (lo a == lo b)) = (a == b) := by
  rw [Bool.eq_iff_iff]; simp only [Bool.and_eq_true, beq_iff_eq]; exact (aV_eq_iff a b).symm
end Go.AM
