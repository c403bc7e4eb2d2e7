/- THE ADDRESSES' FUNCTIONS: what each comes to. Conditions: none. -/
import Derived.Test.YtmjanbhmpbhagaaLb0
set_option linter.unusedVariables false
set_option linter.unusedSimpArgs false
namespace Go.Proofs.Ytmjanbhmpbhagaa.C
open Go.AM
variable {hook : Nat → Nat → List AV → Heap → Option (AV × Heap)} {lim : Nat} {H : Heap}
theorem ev_And (a b c d : BitVec 64) : ev (PX hook) lim 76 [.agg [u64 a, u64 b], .agg [u64 c, u64 d]] H = some (.agg [u64 (a &&& c), u64 (b &&& d)], H) := by
  refine ev_own _ (PF t76) rfl (by decide) ?_
  simp only [f76, go_sem, Nat.reduceAdd, Nat.reduceMul, Nat.reduceSub, Nat.reduceBEq, Nat.reduceEqDiff, Nat.reduceLeDiff, Nat.reduceLT, Nat.reduceBneDiff, Int.reduceAdd, Int.cast_ofNat_Int, Int.toNat_natCast, Int.reduceLE, Int.reduceLT, Int.reduceToNat, Int.reduceEq, ↓reduceIte]
theorem ev_Xor (a b c d : BitVec 64) : ev (PX hook) lim 94 [.agg [u64 a, u64 b], .agg [u64 c, u64 d]] H = some (.agg [u64 (a ^^^ c), u64 (b ^^^ d)], H) := by
  refine ev_own _ (PF t94) rfl (by decide) ?_
  simp only [f94, go_sem, Nat.reduceAdd, Nat.reduceMul, Nat.reduceSub, Nat.reduceBEq, Nat.reduceEqDiff, Nat.reduceLeDiff, Nat.reduceLT, Nat.reduceBneDiff, Int.reduceAdd, Int.cast_ofNat_Int, Int.toNat_natCast, Int.reduceLE, Int.reduceLT, Int.reduceToNat, Int.reduceEq, ↓reduceIte]
theorem ev_Mask (n : Int) : ev (PX hook) lim 92 [.int .i64 n] H = some (.agg [u64 (hi (maskA (near n))), u64 (lo (maskA (near n)))], H) := by
  refine ev_own _ (PF t92) rfl (by decide) ?_
  have hn := near_le n
  have e0 : min (max n 0) 128 = ((near n : Nat) : Int) := (near_cast n).symm
  have e1 : IntKind.wrap .i64 ((near n : Nat) : Int) = ((near n : Nat) : Int) := by rw [wrap_i64] <;> omega
  have e2 : IntKind.wrap .i64 (((near n : Nat) : Int) - 64) = ((near n : Nat) : Int) - 64 := by rw [wrap_i64] <;> omega
  have e3 : min (max ((near n : Nat) : Int) 0) 64 = ((min (near n) 64 : Nat) : Int) := by omega
  have e4 : min (max (((near n : Nat) : Int) - 64) 0) 64 = ((min (near n - 64) 64 : Nat) : Int) := by omega
  have w0 : IntKind.wrap .i64 0 = 0 := rfl
  have w1 : IntKind.wrap .i64 1 = 1 := rfl
  have w2 : IntKind.wrap .i64 2 = 2 := rfl
  have w64 : IntKind.wrap .i64 64 = 64 := rfl
  simp only [f92, go_sem, Nat.reduceAdd, Nat.reduceMul, Nat.reduceSub, Nat.reduceBEq, Nat.reduceEqDiff, Nat.reduceLeDiff, Nat.reduceLT, Nat.reduceBneDiff, Int.reduceAdd, Int.cast_ofNat_Int, Int.toNat_natCast, Int.reduceLE, Int.reduceLT, Int.reduceToNat, Int.reduceEq, ↓reduceIte, e0]
  rw [GO_unroll]
  simp only [f92b0, go_sem, Nat.reduceAdd, Nat.reduceMul, Nat.reduceSub, Nat.reduceBEq, Nat.reduceEqDiff, Nat.reduceLeDiff, Nat.reduceLT, Nat.reduceBneDiff, Int.reduceAdd, Int.cast_ofNat_Int, Int.toNat_natCast, Int.reduceLE, Int.reduceLT, Int.reduceToNat, Int.reduceEq, ↓reduceIte, e0, e1, e3, w0, w1, Int.mul_zero, Int.sub_zero, Int.zero_add, Int.reduceAdd, decide_true]
  rw [GO_unroll]
  simp only [f92b0, go_sem, Nat.reduceAdd, Nat.reduceMul, Nat.reduceSub, Nat.reduceBEq, Nat.reduceEqDiff, Nat.reduceLeDiff, Nat.reduceLT, Nat.reduceBneDiff, Int.reduceAdd, Int.cast_ofNat_Int, Int.toNat_natCast, Int.reduceLE, Int.reduceLT, Int.reduceToNat, Int.reduceEq, ↓reduceIte, e0, e1, e2, e4, w0, w1, w2, w64, Int.mul_one, Int.reduceAdd, decide_true]
  rw [GO_unroll]
  simp only [f92b0, go_sem, Nat.reduceAdd, Nat.reduceMul, Nat.reduceSub, Nat.reduceBEq, Nat.reduceEqDiff, Nat.reduceLeDiff, Nat.reduceLT, Nat.reduceBneDiff, Int.reduceAdd, Int.cast_ofNat_Int, Int.toNat_natCast, Int.reduceLE, Int.reduceLT, Int.reduceToNat, Int.reduceEq, ↓reduceIte, Int.lt_irrefl, decide_false]
  rw [hi_mask _ _ rfl, lo_mask _ _ rfl]
theorem ev_Cut (a : Adr) (n : Int) : ev (PX hook) lim 93 [.agg [u64 (hi a), u64 (lo a)], .int .i64 n] H = some (.agg [u64 (hi (cutA a (near n))), u64 (lo (cutA a (near n)))], H) := by
  refine ev_own _ (PF t93) rfl (by decide) ?_
  simp only [f93, go_sem, Nat.reduceAdd, Nat.reduceMul, Nat.reduceSub, Nat.reduceBEq, Nat.reduceEqDiff, Nat.reduceLeDiff, Nat.reduceLT, Nat.reduceBneDiff, Int.reduceAdd, Int.cast_ofNat_Int, Int.toNat_natCast, Int.reduceLE, Int.reduceLT, Int.reduceToNat, Int.reduceEq, ↓reduceIte, ev_Mask, ev_And, cutA]
  rw [hi_and, lo_and]

/-- The lengths of all bytes. -/
def len8 : ByteArray := ⟨#[0, 1, 2, 2, 3, 3, 3, 3, 4, 4, 4, 4, 4, 4, 4, 4, 5, 5, 5, 5, 5, 5, 5, 5, 5, 5, 5, 5, 5, 5, 5, 5, 6, 6, 6, 6, 6, 6, 6, 6, 6, 6, 6, 6, 6, 6, 6, 6, 6, 6, 6, 6, 6, 6, 6, 6, 6, 6, 6, 6, 6, 6, 6, 6, 7, 7, 7, 7, 7, 7, 7, 7, 7, 7, 7, 7, 7, 7, 7, 7, 7, 7, 7, 7, 7, 7, 7, 7, 7, 7, 7, 7, 7, 7, 7, 7, 7, 7, 7, 7, 7, 7, 7, 7, 7, 7, 7, 7, 7, 7, 7, 7, 7, 7, 7, 7, 7, 7, 7, 7, 7, 7, 7, 7, 7, 7, 7, 7, 8, 8, 8, 8, 8, 8, 8, 8, 8, 8, 8, 8, 8, 8, 8, 8, 8, 8, 8, 8, 8, 8, 8, 8, 8, 8, 8, 8, 8, 8, 8, 8, 8, 8, 8, 8, 8, 8, 8, 8, 8, 8, 8, 8, 8, 8, 8, 8, 8, 8, 8, 8, 8, 8, 8, 8, 8, 8, 8, 8, 8, 8, 8, 8, 8, 8, 8, 8, 8, 8, 8, 8, 8, 8, 8, 8, 8, 8, 8, 8, 8, 8, 8, 8, 8, 8, 8, 8, 8, 8, 8, 8, 8, 8, 8, 8, 8, 8, 8, 8, 8, 8, 8, 8, 8, 8, 8, 8, 8, 8, 8, 8, 8, 8, 8, 8, 8, 8, 8, 8, 8, 8, 8, 8, 8, 8, 8, 8]⟩
theorem len8_ok : ∀ i : Fin 256, (len8[i.val]?).any (fun b => decide (IsLen i.val b.toNat)) = true := by decide +kernel
theorem sidx_len8 (x : BitVec 64) (h : x.toNat < 256) : ∃ m : Nat, IsLen x.toNat m ∧ m ≤ 8 ∧ sidxV (.str len8) (.int .u8 (IntKind.wrap .u8 (x.toNat : Int))) = some (.int .u8 (m : Int)) := by
  have h1 := len8_ok ⟨x.toNat, h⟩
  simp only at h1
  rw [wrap_u8 (by omega) (by omega)]
  have e : sidxV (.str len8) (.int .u8 (x.toNat : Int)) = (len8[x.toNat]?).map fun b => AV.int .u8 (b.toNat : Int) := by
    simp only [sidxV, Int.toNat_natCast]
    rw [if_pos (by omega)]
  rw [e]
  cases hb : len8[x.toNat]? with
  | none => rw [hb] at h1; simp at h1
  | some b =>
    rw [hb] at h1
    simp only [Option.any_some, decide_eq_true_eq] at h1
    refine ⟨b.toNat, h1, ?_, rfl⟩
    apply Nat.le_of_not_lt; intro g
    have h3 := h1.2.resolve_left (by omega)
    have : 2 ^ 8 ≤ 2 ^ (b.toNat - 1) := Nat.pow_le_pow_right (by omega) (by omega)
    omega
theorem sidx_conv (x : BitVec 64) (k : IntKind) : convV k (u64 x) = some (.int k (IntKind.wrap k (x.toNat : Int))) := rfl

set_option maxRecDepth 4000 in
theorem ev_Len64 (x : BitVec 64) : ∃ n : Nat, IsLen x.toNat n ∧ n ≤ 64 ∧ ∀ (hook : Nat → Nat → List AV → Heap → Option (AV × Heap)) (lim : Nat) (H : Heap), ev (PX hook) lim 122 [u64 x] H = some (.int .i64 (n : Int), H) := by
  have hx := x.isLt
  have sh : ∀ (y : BitVec 64) (s : Nat), (y >>> s).toNat = y.toNat / 2 ^ s := fun y s => by rw [BitVec.toNat_ushiftRight, Nat.shiftRight_eq_div_pow]
  have tt : ∀ (y : BitVec 64) (n : Nat), n < 18446744073709551616 → n ≤ y.toNat → decide (BitVec.ofNat 64 n ≤ y) = true := by
    intro y n hn h; rw [decide_eq_true_eq, BitVec.le_def, BitVec.toNat_ofNat, Nat.mod_eq_of_lt hn]; exact h
  have ff : ∀ (y : BitVec 64) (n : Nat), n < 18446744073709551616 → y.toNat < n → decide (BitVec.ofNat 64 n ≤ y) = false := by
    intro y n hn h; rw [decide_eq_false_iff_not, BitVec.le_def, BitVec.toNat_ofNat, Nat.mod_eq_of_lt hn]; omega
  have p32 : (4294967296 : Nat) = 2 ^ 32 := rfl
  have p16 : (65536 : Nat) = 2 ^ 16 := rfl
  have p8 : (256 : Nat) = 2 ^ 8 := rfl
  -- the three tests, one after the other
  have t32 : ∃ (y : BitVec 64) (c : Nat) (b : Bool), decide (4294967296#64 ≤ x) = b ∧ y = (if b then x >>> 32 else x) ∧ c = (if b then 32 else 0) ∧ y.toNat < 4294967296 ∧ ∀ n, IsLen y.toNat n → IsLen x.toNat (n + c) := by
    by_cases h : 4294967296 ≤ x.toNat
    · refine ⟨x >>> 32, 32, true, tt x _ (by omega) h, rfl, rfl, ?_, fun n hn => ?_⟩
      · rw [sh]; omega
      · rw [sh] at hn; exact hn.shift 32 (by omega)
    · exact ⟨x, 0, false, ff x _ (by omega) (by omega), rfl, rfl, by omega, fun n hn => hn⟩
  obtain ⟨y, c, b, hb, hy, hc, hy4, hl⟩ := t32
  have t16 : ∃ (z : BitVec 64) (c' : Nat) (b' : Bool), decide (65536#64 ≤ y) = b' ∧ z = (if b' then y >>> 16 else y) ∧ c' = (if b' then 16 else 0) ∧ z.toNat < 65536 ∧ ∀ n, IsLen z.toNat n → IsLen y.toNat (n + c') := by
    by_cases h : 65536 ≤ y.toNat
    · refine ⟨y >>> 16, 16, true, tt y _ (by omega) h, rfl, rfl, ?_, fun n hn => ?_⟩
      · rw [sh]; omega
      · rw [sh] at hn; exact hn.shift 16 (by omega)
    · exact ⟨y, 0, false, ff y _ (by omega) (by omega), rfl, rfl, by omega, fun n hn => hn⟩
  obtain ⟨z, c', b', hb', hz, hc', hz4, hl'⟩ := t16
  have t8 : ∃ (w : BitVec 64) (c'' : Nat) (b'' : Bool), decide (256#64 ≤ z) = b'' ∧ w = (if b'' then z >>> 8 else z) ∧ c'' = (if b'' then 8 else 0) ∧ w.toNat < 256 ∧ ∀ n, IsLen w.toNat n → IsLen z.toNat (n + c'') := by
    by_cases h : 256 ≤ z.toNat
    · refine ⟨z >>> 8, 8, true, tt z _ (by omega) h, rfl, rfl, ?_, fun n hn => ?_⟩
      · rw [sh]; omega
      · rw [sh] at hn; exact hn.shift 8 (by omega)
    · exact ⟨z, 0, false, ff z _ (by omega) (by omega), rfl, rfl, by omega, fun n hn => hn⟩
  obtain ⟨w, c'', b'', hb'', hw, hc'', hw4, hl''⟩ := t8
  obtain ⟨m, hm, hm8, hs⟩ := sidx_len8 w hw4
  unfold len8 at hs
  refine ⟨m + c'' + c' + c, hl _ (hl' _ (hl'' _ hm)), ?_, ?_⟩
  · have := (hl _ (hl' _ (hl'' _ hm)))
    apply Nat.le_of_not_lt; intro g
    have h3 := this.2.resolve_left (by omega)
    have : 2 ^ 64 ≤ 2 ^ (m + c'' + c' + c - 1) := Nat.pow_le_pow_right (by omega) (by omega)
    omega
  intro hook lim H
  refine ev_own _ (PF t122) rfl (by decide) ?_
  have w1 : IntKind.wrap .i64 (m : Int) = (m : Int) := by rw [wrap_i64] <;> omega
  have w2 : ∀ c : Nat, c ≤ 56 → IntKind.wrap .i64 ((c : Int) + (m : Int)) = ((m + c : Nat) : Int) := by intro c h; rw [wrap_i64] <;> omega
  have w20 : IntKind.wrap .i64 (0 + (m : Int)) = ((m + 0 : Nat) : Int) := w2 0 (by omega)
  have w28 : IntKind.wrap .i64 (8 + (m : Int)) = ((m + 8 : Nat) : Int) := w2 8 (by omega)
  have w216 : IntKind.wrap .i64 (16 + (m : Int)) = ((m + 16 : Nat) : Int) := w2 16 (by omega)
  have w224 : IntKind.wrap .i64 (24 + (m : Int)) = ((m + 24 : Nat) : Int) := w2 24 (by omega)
  have w232 : IntKind.wrap .i64 (32 + (m : Int)) = ((m + 32 : Nat) : Int) := w2 32 (by omega)
  have w240 : IntKind.wrap .i64 (40 + (m : Int)) = ((m + 40 : Nat) : Int) := w2 40 (by omega)
  have w248 : IntKind.wrap .i64 (48 + (m : Int)) = ((m + 48 : Nat) : Int) := w2 48 (by omega)
  have w256 : IntKind.wrap .i64 (56 + (m : Int)) = ((m + 56 : Nat) : Int) := w2 56 (by omega)
  have v0 : ∀ k : Int, k = 8 ∨ k = 16 ∨ k = 24 ∨ k = 32 ∨ k = 40 ∨ k = 48 ∨ k = 56 → IntKind.wrap .i64 k = k := by intro k hk; rw [wrap_i64] <;> omega
  have v8 := v0 8 (by omega)
  have v16 := v0 16 (by omega)
  have v24 := v0 24 (by omega)
  have v40 := v0 40 (by omega)
  have v48 := v0 48 (by omega)
  have v56 := v0 56 (by omega)
  have s8 : ∀ y : BitVec 64, binV .shr (u64 y) (.int .u64 8) = some (u64 (y >>> 8)) := fun y => binV_shr y .u64 8
  have s16 : ∀ y : BitVec 64, binV .shr (u64 y) (.int .u64 16) = some (u64 (y >>> 16)) := fun y => binV_shr y .u64 16
  have s32 : ∀ y : BitVec 64, binV .shr (u64 y) (.int .u64 32) = some (u64 (y >>> 32)) := fun y => binV_shr y .u64 32
  cases b <;> cases b' <;> cases b'' <;> simp only [if_true, if_false, Bool.false_eq_true] at hy hc hz hc' hw hc'' <;> subst hy hc hz hc' hw hc'' <;>
    simp only [f122, go_sem, Nat.reduceAdd, Nat.reduceMul, Nat.reduceSub, Nat.reduceBEq, Nat.reduceEqDiff, Nat.reduceLeDiff, Nat.reduceLT, Nat.reduceBneDiff, Int.reduceAdd, Int.cast_ofNat_Int, Int.toNat_natCast, Int.reduceLE, Int.reduceLT, Int.reduceToNat, Int.reduceEq, ↓reduceIte, u64_p32, u64_p16, u64_p8, hb, hb', hb'', s8, s16, s32, sidx_conv, hs, w1, w20, w28, w216, w224, w232, w240, w248, w256, v8, v16, v24, v40, v48, v56, Int.reduceAdd, Int.zero_add]
end Go.Proofs.Ytmjanbhmpbhagaa.C
