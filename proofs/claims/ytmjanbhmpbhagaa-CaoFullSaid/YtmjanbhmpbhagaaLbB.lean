/- THE DOCUMENT'S ADDRESSES (by rows of truth values): what each function comes to. Conditions: none. -/
import Derived.Test.YtmjanbhmpbhagaaLbA
set_option linter.unusedVariables false
set_option linter.unusedSimpArgs false
namespace Go.Proofs.Ytmjanbhmpbhagaa.C
open Go.AM
variable {hook : Nat → Nat → List AV → Heap → Option (AV × Heap)} {lim : Nat} {H : Heap}

theorem beq_i (a b : Int) (h : ¬ a = b) : (a == b) = false := by simp [h]
theorem wrap_nat (n : Nat) (h : n < 9223372036854775808) : IntKind.wrap .i64 (n : Int) = (n : Int) := by rw [wrap_i64] <;> omega

def bitsF (w m : Nat) (x : BitVec 64) (f : Nat → Bool) : Nat → Bool := fun j => if 64 * w + m ≤ j ∧ j < 64 * w + 64 then x.getMsbD (j - 64 * w) else f j
theorem bitsF_step (w m : Nat) (hm : m < 64) (x : BitVec 64) (f : Nat → Bool) : (fun j => if j = 64 * w + m then x.getMsbD m else bitsF w (m + 1) x f j) = bitsF w m x f := by
  funext j
  unfold bitsF
  by_cases h : j = 64 * w + m
  · subst h
    rw [if_pos rfl, if_pos ⟨Nat.le_refl _, by omega⟩, Nat.add_sub_cancel_left]
  · rw [if_neg h]
    by_cases h2 : 64 * w + m ≤ j ∧ j < 64 * w + 64
    · rw [if_pos h2, if_pos ⟨by omega, h2.2⟩]
    · rw [if_neg h2, if_neg (by omega)]
theorem bits_in (w : Nat) (hw : w < 2) (x : BitVec 64) (f : Nat → Bool) (b : Blk) {K : List Frm} {Q : Post} {e : Env} (hl : lim ≤ H.length)
    (h3 : e 3 = .sl (H.length + 1) 0 0 128 true) (h4 : e 4 = .int .i64 (w : Int)) (h5 : e 5 = u64 x) (h6 : e 6 = .int .i64 63)
    (g : ∀ e', e' 1 = e 1 → e' 3 = e 3 → e' 4 = e 4 → ON (PX hook) lim K (.exit 2) e' (H ++ [b, .rw 0 1 (bl 128 (bitsF w 0 x f))]) Q) :
    GO (PX hook) lim (.loop f95b0) K e (H ++ [b, .rw 0 1 (bl 128 f)]) Q := by
  refine GO_loop _ (fun m e' H' => m ≤ 64 ∧ e' 1 = e 1 ∧ e' 3 = .sl (H.length + 1) 0 0 128 true ∧ e' 4 = .int .i64 (w : Int) ∧ e' 5 = u64 (x >>> (64 - m)) ∧ e' 6 = .int .i64 ((m : Int) - 1) ∧ H' = H ++ [b, .rw 0 1 (bl 128 (bitsF w m x f))]) ?_ 64 e _ ?_
  · rintro m e' H' ⟨hm, i1, i3, i4, i5, i6, rfl⟩
    cases m with
    | zero =>
      have d : decide ((0 : Int) ≤ 0 - 1) = false := by decide
      simp only [f95b0, go_sem, Nat.reduceAdd, Nat.reduceMul, Nat.reduceSub, Nat.reduceBEq, Nat.reduceEqDiff, Nat.reduceLeDiff, Nat.reduceLT, Nat.reduceBneDiff, Int.reduceAdd, Int.cast_ofNat_Int, Int.toNat_natCast, Int.reduceLE, Int.reduceLT, Int.reduceToNat, Int.reduceEq, ↓reduceIte, i3, i4, i5, i6, d]
      exact g _ i1 (i3.trans h3.symm) (i4.trans h4.symm)
    | succ m =>
      have d : decide ((0 : Int) ≤ ((m + 1 : Nat) : Int) - 1) = true := by rw [decide_eq_true_eq]; omega
      have a1 : IntKind.wrap .i64 (IntKind.wrap .i64 (64 * (w : Int)) + (((m + 1 : Nat) : Int) - 1)) = ((64 * w + m : Nat) : Int) := by
        rw [wrap_i64 (n := 64 * (w : Int)) (by omega) (by omega), wrap_i64] <;> omega
      have a2 : IntKind.wrap .i64 (((m + 1 : Nat) : Int) - 1 - 1) = (m : Int) - 1 := by rw [wrap_i64] <;> omega
      have a3 : (0 : Int) ≤ ((64 * w + m : Nat) : Int) := by omega
      have a4 : ((64 * w + m : Nat) : Int) < 128 := by omega
      have a5 : 64 * w + m + 1 ≤ 128 := by omega
      have a6 : x >>> (64 - (m + 1)) = x >>> (63 - m) := by rw [show 64 - (m + 1) = 63 - m by omega]
      have a7 : 63 - m + 1 = 64 - m := by omega
      simp only [f95b0, go_sem, Nat.reduceAdd, Nat.reduceMul, Nat.reduceSub, Nat.reduceBEq, Nat.reduceEqDiff, Nat.reduceLeDiff, Nat.reduceLT, Nat.reduceBneDiff, Int.reduceAdd, Int.cast_ofNat_Int, Int.toNat_natCast, Int.reduceLE, Int.reduceLT, Int.reduceToNat, Int.reduceEq, ↓reduceIte, i3, i4, i5, i6, d, a1, a2, a3, a4, bl_length, a5, bl_set, a6, odd_word x m (by omega), half_word, a7, hl, bitsF_step w m (by omega) x f]
      exact ⟨m, by omega, by omega, i1, rfl, rfl, rfl⟩
  · refine ⟨Nat.le_refl _, rfl, h3, h4, ?_, h6, ?_⟩
    · rw [h5]; simp
    · have : f = bitsF w 64 x f := by funext j; unfold bitsF; rw [if_neg (by omega)]
      rw [← this]
theorem ev_Bits (a : Adr) : ev (PX hook) lim 95 [.agg [u64 (hi a), u64 (lo a)]] H = some (.sl H.length 0 0 128 true, H ++ [.rw 0 1 (bl 128 (bitA a))]) := by
  refine ev_own _ (PF t95) rfl (by decide) ?_
  have m1 : mkSliceV (H ++ [.rw 0 2 [u64 (hi a), u64 (lo a)]]) 1 1 [.bool false] (.int .i64 128) (.int .i64 128) = some (.sl (H.length + 1) 0 0 128 true, H ++ [.rw 0 2 [u64 (hi a), u64 (lo a)], .rw 0 1 (bl 128 fun _ => false)]) := by
    simp [mkSliceV, ← bl_false]
  have w1 : IntKind.wrap .i64 1 = 1 := rfl
  simp only [f95, go_sem, Nat.reduceAdd, Nat.reduceMul, Nat.reduceSub, Nat.reduceBEq, Nat.reduceEqDiff, Nat.reduceLeDiff, Nat.reduceLT, Nat.reduceBneDiff, Int.reduceAdd, Int.cast_ofNat_Int, Int.toNat_natCast, Int.reduceLE, Int.reduceLT, Int.reduceToNat, Int.reduceEq, ↓reduceIte, m1]
  rw [GO_unroll]
  simp only [f95b1, go_sem, Nat.reduceAdd, Nat.reduceMul, Nat.reduceSub, Nat.reduceBEq, Nat.reduceEqDiff, Nat.reduceLeDiff, Nat.reduceLT, Nat.reduceBneDiff, Int.reduceAdd, Int.cast_ofNat_Int, Int.toNat_natCast, Int.reduceLE, Int.reduceLT, Int.reduceToNat, Int.reduceEq, ↓reduceIte, decide_true]
  refine bits_in 0 (by omega) (hi a) _ _ (Nat.le_refl _) ?_ ?_ ?_ ?_ ?_
  all_goals (try simp only [go_sem, Nat.reduceAdd, Nat.reduceMul, Nat.reduceSub, Nat.reduceBEq, Nat.reduceEqDiff, Nat.reduceLeDiff, Nat.reduceLT, Nat.reduceBneDiff, Int.reduceAdd, Int.cast_ofNat_Int, Int.toNat_natCast, Int.reduceLE, Int.reduceLT, Int.reduceToNat, Int.reduceEq, ↓reduceIte])
  intro e' e1 e3 e4
  simp only [go_sem, Nat.reduceAdd, Nat.reduceMul, Nat.reduceSub, Nat.reduceBEq, Nat.reduceEqDiff, Nat.reduceLeDiff, Nat.reduceLT, Nat.reduceBneDiff, Int.reduceAdd, Int.cast_ofNat_Int, Int.toNat_natCast, Int.reduceLE, Int.reduceLT, Int.reduceToNat, Int.reduceEq, ↓reduceIte, e1, e3, e4, w1, Int.zero_add]
  rw [GO_unroll]
  simp only [f95b1, go_sem, Nat.reduceAdd, Nat.reduceMul, Nat.reduceSub, Nat.reduceBEq, Nat.reduceEqDiff, Nat.reduceLeDiff, Nat.reduceLT, Nat.reduceBneDiff, Int.reduceAdd, Int.cast_ofNat_Int, Int.toNat_natCast, Int.reduceLE, Int.reduceLT, Int.reduceToNat, Int.reduceEq, ↓reduceIte, e1, e3, decide_true]
  refine bits_in 1 (by omega) (lo a) _ _ (Nat.le_refl _) ?_ ?_ ?_ ?_ ?_
  all_goals (try simp only [go_sem, Nat.reduceAdd, Nat.reduceMul, Nat.reduceSub, Nat.reduceBEq, Nat.reduceEqDiff, Nat.reduceLeDiff, Nat.reduceLT, Nat.reduceBneDiff, Int.reduceAdd, Int.cast_ofNat_Int, Int.toNat_natCast, Int.reduceLE, Int.reduceLT, Int.reduceToNat, Int.reduceEq, ↓reduceIte, e1, e3])
  intro e'' e1' e3' e4'
  simp only [go_sem, Nat.reduceAdd, Nat.reduceMul, Nat.reduceSub, Nat.reduceBEq, Nat.reduceEqDiff, Nat.reduceLeDiff, Nat.reduceLT, Nat.reduceBneDiff, Int.reduceAdd, Int.cast_ofNat_Int, Int.toNat_natCast, Int.reduceLE, Int.reduceLT, Int.reduceToNat, Int.reduceEq, ↓reduceIte, e1', e3', e4', w1, Int.reduceAdd]
  rw [GO_unroll]
  have w2 : IntKind.wrap .i64 2 = 2 := rfl
  simp only [go_sem, Nat.reduceAdd, Nat.reduceMul, Nat.reduceSub, Nat.reduceBEq, Nat.reduceEqDiff, Nat.reduceLeDiff, Nat.reduceLT, Nat.reduceBneDiff, Int.reduceAdd, Int.cast_ofNat_Int, Int.toNat_natCast, Int.reduceLE, Int.reduceLT, Int.reduceToNat, Int.reduceEq, ↓reduceIte, e1', e3', e4', w2, Int.lt_irrefl, decide_false, bl_flats]
  congr 3
  apply bl_congr
  intro i hi
  unfold bitsF
  by_cases h : i < 64
  · rw [if_neg (by omega), if_pos ⟨by omega, by omega⟩, ← bit_hi a i h]; rfl
  · rw [if_pos ⟨by omega, by omega⟩, bit_lo a _ (by omega)]
    congr 1; omega

theorem ev_Words (id ver : Nat) (f : Nat → Bool) (l : Bool) (hc : Heap.cells H id ver = some (bl 128 f)) : ev (PX hook) lim 96 [.sl id ver 0 128 l] H = some (.agg [u64 (hi (ofBits f)), u64 (lo (ofBits f))], H) := by
  refine ev_own _ (PF t96) rfl (by decide) ?_
  have hc' : ∀ L, Heap.cells (H ++ L) id ver = some (bl 128 f) := fun L => Heap.cells_old hc
  simp only [f96, go_sem, Nat.reduceAdd, Nat.reduceMul, Nat.reduceSub, Nat.reduceBEq, Nat.reduceEqDiff, Nat.reduceLeDiff, Nat.reduceLT, Nat.reduceBneDiff, Int.reduceAdd, Int.cast_ofNat_Int, Int.toNat_natCast, Int.reduceLE, Int.reduceLT, Int.reduceToNat, Int.reduceEq, ↓reduceIte]
  refine GO_loop _ (fun m e H' => ∃ k : Nat, k + m = 128 ∧ e 0 = .sl id ver 0 128 l ∧ e 2 = .ptr H.length 0 0 ∧ e 3 = .ptr (H.length + 1) 0 0 ∧ e 4 = .int .i64 (k : Int) ∧ H' = H ++ [.rw 0 2 [u64 0#64, u64 0#64], .rw 0 2 [u64 (BitVec.ofNat 64 (vN f 0 (min k 64))), u64 (BitVec.ofNat 64 (vN f 64 (k - 64)))]]) ?_ 128 _ _ ?_
  · rintro m e H' ⟨k, hk, i0, i2, i3, i4, rfl⟩
    cases m with
    | zero =>
      have hk' : k = 128 := by omega
      subst hk'
      have d : decide ((128 : Int) < 128) = false := by decide
      simp only [f96b0, go_sem, Nat.reduceAdd, Nat.reduceMul, Nat.reduceSub, Nat.reduceBEq, Nat.reduceEqDiff, Nat.reduceLeDiff, Nat.reduceLT, Nat.reduceBneDiff, Int.reduceAdd, Int.cast_ofNat_Int, Int.toNat_natCast, Int.reduceLE, Int.reduceLT, Int.reduceToNat, Int.reduceEq, ↓reduceIte, i0, i2, i3, i4, d]
      rw [ofBits, hi_mk, lo_mk]
      rfl
    | succ m =>
      have d : decide ((k : Int) < 128) = true := by rw [decide_eq_true_eq]; omega
      have a1 : IntKind.wrap .i64 ((k : Int) + 1) = ((k + 1 : Nat) : Int) := by rw [wrap_i64] <;> omega
      have a3 : (0 : Int) ≤ (k : Int) := by omega
      have a4 : (k : Int) < 128 := by omega
      have a5 : k < 128 := by omega
      have b0 := bl_get 128 f k (by omega)
      by_cases hk6 : k < 64
      · have q : IntKind.wrap .i64 ((k : Int).tdiv 64) = 0 := by rw [Int.tdiv_eq_ediv_of_nonneg (by omega), wrap_i64] <;> omega
        have s1 := word_step f 0 k
        have e1 : min k 64 = k := by omega
        have e2 : min (k + 1) 64 = k + 1 := by omega
        have e3 : k - 64 = 0 := by omega
        have e4 : k + 1 - 64 = 0 := by omega
        rw [Nat.zero_add] at s1
        rw [e1, e3]
        cases hf : f k
        · rw [hf] at b0 s1
          simp only [Bool.false_eq_true, if_false, BitVec.add_zero] at s1
          simp only [f96b0, go_sem, Nat.reduceAdd, Nat.reduceMul, Nat.reduceSub, Nat.reduceBEq, Nat.reduceEqDiff, Nat.reduceLeDiff, Nat.reduceLT, Nat.reduceBneDiff, Int.reduceAdd, Int.cast_ofNat_Int, Int.toNat_natCast, Int.reduceLE, Int.reduceLT, Int.reduceToNat, Int.reduceEq, ↓reduceIte, i0, i2, i3, i4, d, a1, a3, a4, q, hc', b0, s1]
          exact ⟨m, by omega, k + 1, by omega, by rw [e2, e4]; exact ⟨rfl, rfl⟩⟩
        · rw [hf] at b0 s1
          simp only [if_true] at s1
          simp only [f96b0, go_sem, Nat.reduceAdd, Nat.reduceMul, Nat.reduceSub, Nat.reduceBEq, Nat.reduceEqDiff, Nat.reduceLeDiff, Nat.reduceLT, Nat.reduceBneDiff, Int.reduceAdd, Int.cast_ofNat_Int, Int.toNat_natCast, Int.reduceLE, Int.reduceLT, Int.reduceToNat, Int.reduceEq, ↓reduceIte, i0, i2, i3, i4, d, a1, a3, a4, q, hc', b0, s1]
          exact ⟨m, by omega, k + 1, by omega, by rw [e2, e4]; exact ⟨rfl, rfl⟩⟩
      · have q : IntKind.wrap .i64 ((k : Int).tdiv 64) = 1 := by rw [Int.tdiv_eq_ediv_of_nonneg (by omega), wrap_i64] <;> omega
        have s1 := word_step f 64 (k - 64)
        have e1 : min k 64 = 64 := by omega
        have e2 : min (k + 1) 64 = 64 := by omega
        have e3 : 64 + (k - 64) = k := by omega
        have e4 : k + 1 - 64 = k - 64 + 1 := by omega
        rw [e3] at s1
        rw [e1]
        cases hf : f k
        · rw [hf] at b0 s1
          simp only [Bool.false_eq_true, if_false, BitVec.add_zero] at s1
          simp only [f96b0, go_sem, Nat.reduceAdd, Nat.reduceMul, Nat.reduceSub, Nat.reduceBEq, Nat.reduceEqDiff, Nat.reduceLeDiff, Nat.reduceLT, Nat.reduceBneDiff, Int.reduceAdd, Int.cast_ofNat_Int, Int.toNat_natCast, Int.reduceLE, Int.reduceLT, Int.reduceToNat, Int.reduceEq, ↓reduceIte, i0, i2, i3, i4, d, a1, a3, a4, q, hc', b0, s1]
          exact ⟨m, by omega, k + 1, by omega, by rw [e2, e4]; exact ⟨rfl, rfl⟩⟩
        · rw [hf] at b0 s1
          simp only [if_true] at s1
          simp only [f96b0, go_sem, Nat.reduceAdd, Nat.reduceMul, Nat.reduceSub, Nat.reduceBEq, Nat.reduceEqDiff, Nat.reduceLeDiff, Nat.reduceLT, Nat.reduceBneDiff, Int.reduceAdd, Int.cast_ofNat_Int, Int.toNat_natCast, Int.reduceLE, Int.reduceLT, Int.reduceToNat, Int.reduceEq, ↓reduceIte, i0, i2, i3, i4, d, a1, a3, a4, q, hc', b0, s1]
          exact ⟨m, by omega, k + 1, by omega, by rw [e2, e4]; exact ⟨rfl, rfl⟩⟩
  · refine ⟨0, rfl, ?_⟩
    simp only [go_sem, Nat.reduceAdd, Nat.reduceMul, Nat.reduceSub, Nat.reduceBEq, Nat.reduceEqDiff, Nat.reduceLeDiff, Nat.reduceLT, Nat.reduceBneDiff, Int.reduceAdd, Int.cast_ofNat_Int, Int.toNat_natCast, Int.reduceLE, Int.reduceLT, Int.reduceToNat, Int.reduceEq, ↓reduceIte, vN, Nat.zero_min, Nat.zero_sub]


theorem op_loop (x y : Nat → Bool) (B : Heap) (ix iy vx vy : Nat) {K : List Frm} {Q : Post} {e : Env} {G H0 : Heap} (hH : H0 = B ++ G) (hl : lim ≤ B.length)
    (hx : ∀ G, Heap.cells (B ++ G) ix vx = some (bl 128 x)) (hy : ∀ G, Heap.cells (B ++ G) iy vy = some (bl 128 y))
    (h0 : e 0 = .int .i64 0) (h7 : e 7 = .sl ix vx 0 128 true) (h8 : e 8 = .sl iy vy 0 128 true) (h9 : e 9 = .nils) (h10 : e 10 = .int .i64 0)
    (g : ∀ e' G', e' 6 = e 6 → Grown 1 B G' 128 (bl 128 fun k => x k && y k) (e' 9) → ON (PX hook) lim K (.exit 0) e' (B ++ G') Q) :
    GO (PX hook) lim (.loop f77b0) K e H0 Q := by
  subst hH
  refine GO_loop _ (fun m e' H' => ∃ (k : Nat) (G' : Heap), k + m = 128 ∧ e' 0 = .int .i64 0 ∧ e' 6 = e 6 ∧ e' 7 = .sl ix vx 0 128 true ∧ e' 8 = .sl iy vy 0 128 true ∧ e' 10 = .int .i64 (k : Int) ∧ Grown 1 B G' k (bl k fun k => x k && y k) (e' 9) ∧ H' = B ++ G') ?_ 128 _ _ ?_
  · rintro m e' H' ⟨k, G', hk, i0, i6, i7, i8, i10, hg, rfl⟩
    cases m with
    | zero =>
      have hk' : k = 128 := by omega
      subst hk'
      simp only [f77b0, go_sem, Nat.reduceAdd, Nat.reduceMul, Nat.reduceSub, Nat.reduceBEq, Nat.reduceEqDiff, Nat.reduceLeDiff, Nat.reduceLT, Nat.reduceBneDiff, Int.reduceAdd, Int.cast_ofNat_Int, Int.toNat_natCast, Int.reduceLE, Int.reduceLT, Int.reduceToNat, Int.reduceEq, ↓reduceIte, i0, i6, i7, i8, i10]
      exact g _ _ i6 hg
    | succ m =>
      have d : decide ((k : Int) < 128) = true := by rw [decide_eq_true_eq]; omega
      have a1 : IntKind.wrap .i64 ((k : Int) + 1) = ((k + 1 : Nat) : Int) := by rw [wrap_i64] <;> omega
      have a3 : (0 : Int) ≤ (k : Int) := by omega
      have a4 : (k : Int) < 128 := by omega
      have bx := bl_get 128 x k (by omega)
      have byy := bl_get 128 y k (by omega)
      obtain ⟨v', G'', ha, hg'⟩ := hg.push (bytes := 1) (lim := lim) [.bool (x k && y k)] rfl hl (by omega)
      rw [← bl_succ k (fun k => x k && y k)] at hg'
      have z1 : ((0 : Int) == 1) = false := rfl
      have z2 : ((0 : Int) == 2) = false := rfl
      cases hxk : x k
      · rw [hxk] at bx ha
        simp only [Bool.false_and] at ha
        simp only [f77b0, go_sem, Nat.reduceAdd, Nat.reduceMul, Nat.reduceSub, Nat.reduceBEq, Nat.reduceEqDiff, Nat.reduceLeDiff, Nat.reduceLT, Nat.reduceBneDiff, Int.reduceAdd, Int.cast_ofNat_Int, Int.toNat_natCast, Int.reduceLE, Int.reduceLT, Int.reduceToNat, Int.reduceEq, ↓reduceIte, i0, i7, i8, i10, d, a1, a3, a4, hx, hy, bx, byy, z1, z2, ha]
        exact ⟨m, by omega, k + 1, G'', by omega, i6, rfl, hg', rfl⟩
      · rw [hxk] at bx ha
        simp only [Bool.true_and] at ha
        simp only [f77b0, go_sem, Nat.reduceAdd, Nat.reduceMul, Nat.reduceSub, Nat.reduceBEq, Nat.reduceEqDiff, Nat.reduceLeDiff, Nat.reduceLT, Nat.reduceBneDiff, Int.reduceAdd, Int.cast_ofNat_Int, Int.toNat_natCast, Int.reduceLE, Int.reduceLT, Int.reduceToNat, Int.reduceEq, ↓reduceIte, i0, i7, i8, i10, d, a1, a3, a4, hx, hy, bx, byy, z1, z2, ha]
        exact ⟨m, by omega, k + 1, G'', by omega, i6, rfl, hg', rfl⟩
  · exact ⟨0, G, rfl, h0, rfl, h7, h8, h10, by rw [h9]; exact Grown.nil 1 B G, rfl⟩
theorem ev_Op (a b : Adr) : ev (PX hook) lim 77 [.int .i64 0, .agg [u64 (hi a), u64 (lo a)], .agg [u64 (hi b), u64 (lo b)]] H = some (.agg [u64 (hi (a &&& b)), u64 (lo (a &&& b))], H) := by
  refine ev_own _ (PF t77) rfl (by decide) ?_
  simp only [f77, go_sem, Nat.reduceAdd, Nat.reduceMul, Nat.reduceSub, Nat.reduceBEq, Nat.reduceEqDiff, Nat.reduceLeDiff, Nat.reduceLT, Nat.reduceBneDiff, Int.reduceAdd, Int.cast_ofNat_Int, Int.toNat_natCast, Int.reduceLE, Int.reduceLT, Int.reduceToNat, Int.reduceEq, ↓reduceIte, ev_Bits]
  have hbx : ∀ G, Heap.cells ((H ++ [Blk.rw 0 2 [u64 (hi a), u64 (lo a)], .rw 0 2 [u64 (hi b), u64 (lo b)], .rw 0 2 [u64 0#64, u64 0#64], .rw 0 1 (bl 128 (bitA a)), .rw 0 1 (bl 128 (bitA b))]) ++ G) (H.length + 3) 0 = some (bl 128 (bitA a)) := fun G => by simp only [go_sem, Nat.reduceAdd, Nat.reduceMul, Nat.reduceSub, Nat.reduceBEq, Nat.reduceEqDiff, Nat.reduceLeDiff, Nat.reduceLT, Nat.reduceBneDiff, Int.reduceAdd, Int.cast_ofNat_Int, Int.toNat_natCast, Int.reduceLE, Int.reduceLT, Int.reduceToNat, Int.reduceEq, ↓reduceIte]
  have hby : ∀ G, Heap.cells ((H ++ [Blk.rw 0 2 [u64 (hi a), u64 (lo a)], .rw 0 2 [u64 (hi b), u64 (lo b)], .rw 0 2 [u64 0#64, u64 0#64], .rw 0 1 (bl 128 (bitA a)), .rw 0 1 (bl 128 (bitA b))]) ++ G) (H.length + 4) 0 = some (bl 128 (bitA b)) := fun G => by simp only [go_sem, Nat.reduceAdd, Nat.reduceMul, Nat.reduceSub, Nat.reduceBEq, Nat.reduceEqDiff, Nat.reduceLeDiff, Nat.reduceLT, Nat.reduceBneDiff, Int.reduceAdd, Int.cast_ofNat_Int, Int.toNat_natCast, Int.reduceLE, Int.reduceLT, Int.reduceToNat, Int.reduceEq, ↓reduceIte]
  refine op_loop (bitA a) (bitA b) (H ++ [Blk.rw 0 2 [u64 (hi a), u64 (lo a)], .rw 0 2 [u64 (hi b), u64 (lo b)], .rw 0 2 [u64 0#64, u64 0#64], .rw 0 1 (bl 128 (bitA a)), .rw 0 1 (bl 128 (bitA b))]) (H.length + 3) (H.length + 4) 0 0 (G := []) (List.append_nil _).symm (by simp) hbx hby ?_ ?_ ?_ ?_ ?_ ?_
  all_goals (try simp only [go_sem, Nat.reduceAdd, Nat.reduceMul, Nat.reduceSub, Nat.reduceBEq, Nat.reduceEqDiff, Nat.reduceLeDiff, Nat.reduceLT, Nat.reduceBneDiff, Int.reduceAdd, Int.cast_ofNat_Int, Int.toNat_natCast, Int.reduceLE, Int.reduceLT, Int.reduceToNat, Int.reduceEq, ↓reduceIte])
  intro e' G' e6 hg
  obtain ⟨id, ver, h1, h2, h3, h4⟩ := hg.cells (by omega)
  have h4' := h4 []
  rw [List.append_nil] at h4'
  have ew := ev_Words (hook := hook) (lim := H.length) id ver (fun k => bitA a k && bitA b k) false h4'
  simp only [go_sem, Nat.reduceAdd, Nat.reduceMul, Nat.reduceSub, Nat.reduceBEq, Nat.reduceEqDiff, Nat.reduceLeDiff, Nat.reduceLT, Nat.reduceBneDiff, Int.reduceAdd, Int.cast_ofNat_Int, Int.toNat_natCast, Int.reduceLE, Int.reduceLT, Int.reduceToNat, Int.reduceEq, ↓reduceIte] at ew e6
  simp only [go_sem, Nat.reduceAdd, Nat.reduceMul, Nat.reduceSub, Nat.reduceBEq, Nat.reduceEqDiff, Nat.reduceLeDiff, Nat.reduceLT, Nat.reduceBneDiff, Int.reduceAdd, Int.cast_ofNat_Int, Int.toNat_natCast, Int.reduceLE, Int.reduceLT, Int.reduceToNat, Int.reduceEq, ↓reduceIte, h2, ew, e6]
  have e : ofBits (fun k => bitA a k && bitA b k) = a &&& b := by
    rw [← of_bit (a &&& b)]; exact of_congr fun i hi => (bit_and a b i).symm
  rw [e]
theorem ev_Make (a : Adr) (n : Int) : ev (PX hook) lim 74 [.agg [u64 (hi a), u64 (lo a)], .int .i64 n] H = some (.agg [u64 (hi (cutA a (near n))), u64 (lo (cutA a (near n))), .int .i64 (near n : Int)], H) := by
  refine ev_own _ (PF t74) rfl (by decide) ?_
  have e0 : min (max n 0) 128 = ((near n : Nat) : Int) := (near_cast n).symm
  have e1 : near ((near n : Nat) : Int) = near n := near_nat _ (near_le n)
  simp only [f74, go_sem, Nat.reduceAdd, Nat.reduceMul, Nat.reduceSub, Nat.reduceBEq, Nat.reduceEqDiff, Nat.reduceLeDiff, Nat.reduceLT, Nat.reduceBneDiff, Int.reduceAdd, Int.cast_ofNat_Int, Int.toNat_natCast, Int.reduceLE, Int.reduceLT, Int.reduceToNat, Int.reduceEq, ↓reduceIte, e0, ev_Cut, e1]
end Go.Proofs.Ytmjanbhmpbhagaa.C
