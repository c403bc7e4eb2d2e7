/- THE DOCUMENT'S ADDRESSES (by rows of truth values): what each function comes to. Conditions: none. -/
import Derived.Test.YtafonoekobkcdaaLbA
set_option linter.unusedVariables false
set_option linter.unusedSimpArgs false
namespace Go.Proofs.Ytafonoekobkcdaa.C
open Go.AM
variable {hook : Nat → Nat → List AV → Heap → Option (AV × Heap)} {lim : Nat} {H : Heap}

theorem beq_i (a b : Int) (h : ¬ a = b) : (a == b) = false := by simp [h]
theorem wrap_nat (n : Nat) (h : n < 9223372036854775808) : IntKind.wrap .i64 (n : Int) = (n : Int) := by rw [wrap_i64] <;> omega

def bitsF (w m : Nat) (x : BitVec 64) (f : Nat → Bool) : Nat → Bool := fun j => if 64 * w + m ≤ j ∧ j < 64 * w + 64 then x.getMsbD (j - 64 * w) else f j
theorem bitsF_step (w m : Nat) (hm : m < 64) (x : BitVec 64) (f : Nat → Bool) : (fun j => if j = 64 * w + m then x.getMsbD m else bitsF w (m + 1) x f j) = bitsF w m x f := by
  funext j
  unfold bitsF
  by_cases h : j = 64 * w + m
  · subst h
    rw [if_pos rfl, if_pos ⟨Nat.le_refl _, by omega⟩, Nat.add_sub_cancel_left]
  · rw [if_neg h]
    by_cases h2 : 64 * w + m ≤ j ∧ j < 64 * w + 64
    · rw [if_pos h2, if_pos ⟨by omega, h2.2⟩]
    · rw [if_neg h2, if_neg (by omega)]
theorem bits_in (w : Nat) (hw : w < 2) (x : BitVec 64) (f : Nat → Bool) (b : Blk) {K : List Frm} {Q : Post} {e : Env} (hl : lim ≤ H.length)
    (h3 : e 3 = .sl (H.length + 1) 0 0 128 true) (h4 : e 4 = .int .i64 (w : Int)) (h5 : e 5 = u64 x) (h6 : e 6 = .int .i64 63)
    (g : ∀ e', e' 1 = e 1 → e' 3 = e 3 → e' 4 = e 4 → ON (PX hook) lim K (.exit 2) e' (H ++ [b, .rw 0 1 (bl 128 (bitsF w 0 x f))]) Q) :
    GO (PX hook) lim (.loop f49b0) K e (H ++ [b, .rw 0 1 (bl 128 f)]) Q := by
  refine GO_loop _ (fun m e' H' => m ≤ 64 ∧ e' 1 = e 1 ∧ e' 3 = .sl (H.length + 1) 0 0 128 true ∧ e' 4 = .int .i64 (w : Int) ∧ e' 5 = u64 (x >>> (64 - m)) ∧ e' 6 = .int .i64 ((m : Int) - 1) ∧ H' = H ++ [b, .rw 0 1 (bl 128 (bitsF w m x f))]) ?_ 64 e _ ?_
  · rintro m e' H' ⟨hm, i1, i3, i4, i5, i6, rfl⟩
    cases m with
    | zero =>
      have d : decide ((0 : Int) ≤ 0 - 1) = false := by decide
      simp only [f49b0, go_sem, Nat.reduceAdd, Nat.reduceMul, Nat.reduceSub, Nat.reduceBEq, Nat.reduceEqDiff, Nat.reduceLeDiff, Nat.reduceLT, Nat.reduceBneDiff, Int.reduceAdd, Int.cast_ofNat_Int, Int.toNat_natCast, Int.reduceLE, Int.reduceLT, Int.reduceToNat, Int.reduceEq, ↓reduceIte, i3, i4, i5, i6, d]
      exact g _ i1 (i3.trans h3.symm) (i4.trans h4.symm)
    | succ m =>
      have d : decide ((0 : Int) ≤ ((m + 1 : Nat) : Int) - 1) = true := by rw [decide_eq_true_eq]; omega
      have a1 : IntKind.wrap .i64 (IntKind.wrap .i64 (64 * (w : Int)) + (((m + 1 : Nat) : Int) - 1)) = ((64 * w + m : Nat) : Int) := by
        rw [wrap_i64 (n := 64 * (w : Int)) (by omega) (by omega), wrap_i64] <;> omega
      have a2 : IntKind.wrap .i64 (((m + 1 : Nat) : Int) - 1 - 1) = (m : Int) - 1 := by rw [wrap_i64] <;> omega
      have a3 : (0 : Int) ≤ ((64 * w + m : Nat) : Int) := by omega
      have a4 : ((64 * w + m : Nat) : Int) < 128 := by omega
      have a5 : 64 * w + m + 1 ≤ 128 := by omega
      have a6 : x >>> (64 - (m + 1)) = x >>> (63 - m) := by rw [show 64 - (m + 1) = 63 - m by omega]
      have a7 : 63 - m + 1 = 64 - m := by omega
      simp only [f49b0, go_sem, Nat.reduceAdd, Nat.reduceMul, Nat.reduceSub, Nat.reduceBEq, Nat.reduceEqDiff, Nat.reduceLeDiff, Nat.reduceLT, Nat.reduceBneDiff, Int.reduceAdd, Int.cast_ofNat_Int, Int.toNat_natCast, Int.reduceLE, Int.reduceLT, Int.reduceToNat, Int.reduceEq, ↓reduceIte, i3, i4, i5, i6, d, a1, a2, a3, a4, bl_length, a5, bl_set, a6, odd_word x m (by omega), half_word, a7, hl, bitsF_step w m (by omega) x f]
      exact ⟨m, by omega, by omega, i1, rfl, rfl, rfl⟩
  · refine ⟨Nat.le_refl _, rfl, h3, h4, ?_, h6, ?_⟩
    · rw [h5]; simp
    · have : f = bitsF w 64 x f := by funext j; unfold bitsF; rw [if_neg (by omega)]
      rw [← this]
theorem ev_Bits (a : Adr) : ev (PX hook) lim 49 [.agg [u64 (hi a), u64 (lo a)]] H = some (.sl H.length 0 0 128 true, H ++ [.rw 0 1 (bl 128 (bitA a))]) := by
  refine ev_own _ (PF t49) rfl (by decide) ?_
  have m1 : mkSliceV (H ++ [.rw 0 2 [u64 (hi a), u64 (lo a)]]) 1 1 [.bool false] (.int .i64 128) (.int .i64 128) = some (.sl (H.length + 1) 0 0 128 true, H ++ [.rw 0 2 [u64 (hi a), u64 (lo a)], .rw 0 1 (bl 128 fun _ => false)]) := by
    simp [mkSliceV, ← bl_false]
  have w1 : IntKind.wrap .i64 1 = 1 := rfl
  simp only [f49, go_sem, Nat.reduceAdd, Nat.reduceMul, Nat.reduceSub, Nat.reduceBEq, Nat.reduceEqDiff, Nat.reduceLeDiff, Nat.reduceLT, Nat.reduceBneDiff, Int.reduceAdd, Int.cast_ofNat_Int, Int.toNat_natCast, Int.reduceLE, Int.reduceLT, Int.reduceToNat, Int.reduceEq, ↓reduceIte, m1]
  rw [GO_unroll]
  simp only [f49b1, go_sem, Nat.reduceAdd, Nat.reduceMul, Nat.reduceSub, Nat.reduceBEq, Nat.reduceEqDiff, Nat.reduceLeDiff, Nat.reduceLT, Nat.reduceBneDiff, Int.reduceAdd, Int.cast_ofNat_Int, Int.toNat_natCast, Int.reduceLE, Int.reduceLT, Int.reduceToNat, Int.reduceEq, ↓reduceIte, decide_true]
  refine bits_in 0 (by omega) (hi a) _ _ (Nat.le_refl _) ?_ ?_ ?_ ?_ ?_
  all_goals (try simp only [go_sem, Nat.reduceAdd, Nat.reduceMul, Nat.reduceSub, Nat.reduceBEq, Nat.reduceEqDiff, Nat.reduceLeDiff, Nat.reduceLT, Nat.reduceBneDiff, Int.reduceAdd, Int.cast_ofNat_Int, Int.toNat_natCast, Int.reduceLE, Int.reduceLT, Int.reduceToNat, Int.reduceEq, ↓reduceIte])
  intro e' e1 e3 e4
  simp only [go_sem, Nat.reduceAdd, Nat.reduceMul, Nat.reduceSub, Nat.reduceBEq, Nat.reduceEqDiff, Nat.reduceLeDiff, Nat.reduceLT, Nat.reduceBneDiff, Int.reduceAdd, Int.cast_ofNat_Int, Int.toNat_natCast, Int.reduceLE, Int.reduceLT, Int.reduceToNat, Int.reduceEq, ↓reduceIte, e1, e3, e4, w1, Int.zero_add]
  rw [GO_unroll]
  simp only [f49b1, go_sem, Nat.reduceAdd, Nat.reduceMul, Nat.reduceSub, Nat.reduceBEq, Nat.reduceEqDiff, Nat.reduceLeDiff, Nat.reduceLT, Nat.reduceBneDiff, Int.reduceAdd, Int.cast_ofNat_Int, Int.toNat_natCast, Int.reduceLE, Int.reduceLT, Int.reduceToNat, Int.reduceEq, ↓reduceIte, e1, e3, decide_true]
  refine bits_in 1 (by omega) (lo a) _ _ (Nat.le_refl _) ?_ ?_ ?_ ?_ ?_
  all_goals (try simp only [go_sem, Nat.reduceAdd, Nat.reduceMul, Nat.reduceSub, Nat.reduceBEq, Nat.reduceEqDiff, Nat.reduceLeDiff, Nat.reduceLT, Nat.reduceBneDiff, Int.reduceAdd, Int.cast_ofNat_Int, Int.toNat_natCast, Int.reduceLE, Int.reduceLT, Int.reduceToNat, Int.reduceEq, ↓reduceIte, e1, e3])
  intro e'' e1' e3' e4'
  simp only [go_sem, Nat.reduceAdd, Nat.reduceMul, Nat.reduceSub, Nat.reduceBEq, Nat.reduceEqDiff, Nat.reduceLeDiff, Nat.reduceLT, Nat.reduceBneDiff, Int.reduceAdd, Int.cast_ofNat_Int, Int.toNat_natCast, Int.reduceLE, Int.reduceLT, Int.reduceToNat, Int.reduceEq, ↓reduceIte, e1', e3', e4', w1, Int.reduceAdd]
  rw [GO_unroll]
  have w2 : IntKind.wrap .i64 2 = 2 := rfl
  simp only [go_sem, Nat.reduceAdd, Nat.reduceMul, Nat.reduceSub, Nat.reduceBEq, Nat.reduceEqDiff, Nat.reduceLeDiff, Nat.reduceLT, Nat.reduceBneDiff, Int.reduceAdd, Int.cast_ofNat_Int, Int.toNat_natCast, Int.reduceLE, Int.reduceLT, Int.reduceToNat, Int.reduceEq, ↓reduceIte, e1', e3', e4', w2, Int.lt_irrefl, decide_false, bl_flats]
  congr 3
  apply bl_congr
  intro i hi
  unfold bitsF
  by_cases h : i < 64
  · rw [if_neg (by omega), if_pos ⟨by omega, by omega⟩, ← bit_hi a i h]; rfl
  · rw [if_pos ⟨by omega, by omega⟩, bit_lo a _ (by omega)]
    congr 1; omega

theorem ev_Words (id ver : Nat) (f : Nat → Bool) (l : Bool) (hc : Heap.cells H id ver = some (bl 128 f)) : ev (PX hook) lim 70 [.sl id ver 0 128 l] H = some (.agg [u64 (hi (ofBits f)), u64 (lo (ofBits f))], H) := by
  refine ev_own _ (PF t70) rfl (by decide) ?_
  have hc' : ∀ L, Heap.cells (H ++ L) id ver = some (bl 128 f) := fun L => Heap.cells_old hc
  simp only [f70, go_sem, Nat.reduceAdd, Nat.reduceMul, Nat.reduceSub, Nat.reduceBEq, Nat.reduceEqDiff, Nat.reduceLeDiff, Nat.reduceLT, Nat.reduceBneDiff, Int.reduceAdd, Int.cast_ofNat_Int, Int.toNat_natCast, Int.reduceLE, Int.reduceLT, Int.reduceToNat, Int.reduceEq, ↓reduceIte]
  refine GO_loop _ (fun m e H' => ∃ k : Nat, k + m = 128 ∧ e 0 = .sl id ver 0 128 l ∧ e 2 = .ptr H.length 0 0 ∧ e 3 = .ptr (H.length + 1) 0 0 ∧ e 4 = .int .i64 (k : Int) ∧ H' = H ++ [.rw 0 2 [u64 0#64, u64 0#64], .rw 0 2 [u64 (BitVec.ofNat 64 (vN f 0 (min k 64))), u64 (BitVec.ofNat 64 (vN f 64 (k - 64)))]]) ?_ 128 _ _ ?_
  · rintro m e H' ⟨k, hk, i0, i2, i3, i4, rfl⟩
    cases m with
    | zero =>
      have hk' : k = 128 := by omega
      subst hk'
      have d : decide ((128 : Int) < 128) = false := by decide
      simp only [f70b0, go_sem, Nat.reduceAdd, Nat.reduceMul, Nat.reduceSub, Nat.reduceBEq, Nat.reduceEqDiff, Nat.reduceLeDiff, Nat.reduceLT, Nat.reduceBneDiff, Int.reduceAdd, Int.cast_ofNat_Int, Int.toNat_natCast, Int.reduceLE, Int.reduceLT, Int.reduceToNat, Int.reduceEq, ↓reduceIte, i0, i2, i3, i4, d]
      rw [ofBits, hi_mk, lo_mk]
      rfl
    | succ m =>
      have d : decide ((k : Int) < 128) = true := by rw [decide_eq_true_eq]; omega
      have a1 : IntKind.wrap .i64 ((k : Int) + 1) = ((k + 1 : Nat) : Int) := by rw [wrap_i64] <;> omega
      have a3 : (0 : Int) ≤ (k : Int) := by omega
      have a4 : (k : Int) < 128 := by omega
      have a5 : k < 128 := by omega
      have b0 := bl_get 128 f k (by omega)
      by_cases hk6 : k < 64
      · have q : IntKind.wrap .i64 ((k : Int).tdiv 64) = 0 := by rw [Int.tdiv_eq_ediv_of_nonneg (by omega), wrap_i64] <;> omega
        have s1 := word_step f 0 k
        have e1 : min k 64 = k := by omega
        have e2 : min (k + 1) 64 = k + 1 := by omega
        have e3 : k - 64 = 0 := by omega
        have e4 : k + 1 - 64 = 0 := by omega
        rw [Nat.zero_add] at s1
        rw [e1, e3]
        cases hf : f k
        · rw [hf] at b0 s1
          simp only [Bool.false_eq_true, if_false, BitVec.add_zero] at s1
          simp only [f70b0, go_sem, Nat.reduceAdd, Nat.reduceMul, Nat.reduceSub, Nat.reduceBEq, Nat.reduceEqDiff, Nat.reduceLeDiff, Nat.reduceLT, Nat.reduceBneDiff, Int.reduceAdd, Int.cast_ofNat_Int, Int.toNat_natCast, Int.reduceLE, Int.reduceLT, Int.reduceToNat, Int.reduceEq, ↓reduceIte, i0, i2, i3, i4, d, a1, a3, a4, q, hc', b0, s1]
          exact ⟨m, by omega, k + 1, by omega, by rw [e2, e4]; exact ⟨rfl, rfl⟩⟩
        · rw [hf] at b0 s1
          simp only [if_true] at s1
          simp only [f70b0, go_sem, Nat.reduceAdd, Nat.reduceMul, Nat.reduceSub, Nat.reduceBEq, Nat.reduceEqDiff, Nat.reduceLeDiff, Nat.reduceLT, Nat.reduceBneDiff, Int.reduceAdd, Int.cast_ofNat_Int, Int.toNat_natCast, Int.reduceLE, Int.reduceLT, Int.reduceToNat, Int.reduceEq, ↓reduceIte, i0, i2, i3, i4, d, a1, a3, a4, q, hc', b0, s1]
          exact ⟨m, by omega, k + 1, by omega, by rw [e2, e4]; exact ⟨rfl, rfl⟩⟩
      · have q : IntKind.wrap .i64 ((k : Int).tdiv 64) = 1 := by rw [Int.tdiv_eq_ediv_of_nonneg (by omega), wrap_i64] <;> omega
        have s1 := word_step f 64 (k - 64)
        have e1 : min k 64 = 64 := by omega
        have e2 : min (k + 1) 64 = 64 := by omega
        have e3 : 64 + (k - 64) = k := by omega
        have e4 : k + 1 - 64 = k - 64 + 1 := by omega
        rw [e3] at s1
        rw [e1]
        cases hf : f k
        · rw [hf] at b0 s1
          simp only [Bool.false_eq_true, if_false, BitVec.add_zero] at s1
          simp only [f70b0, go_sem, Nat.reduceAdd, Nat.reduceMul, Nat.reduceSub, Nat.reduceBEq, Nat.reduceEqDiff, Nat.reduceLeDiff, Nat.reduceLT, Nat.reduceBneDiff, Int.reduceAdd, Int.cast_ofNat_Int, Int.toNat_natCast, Int.reduceLE, Int.reduceLT, Int.reduceToNat, Int.reduceEq, ↓reduceIte, i0, i2, i3, i4, d, a1, a3, a4, q, hc', b0, s1]
          exact ⟨m, by omega, k + 1, by omega, by rw [e2, e4]; exact ⟨rfl, rfl⟩⟩
        · rw [hf] at b0 s1
          simp only [if_true] at s1
          simp only [f70b0, go_sem, Nat.reduceAdd, Nat.reduceMul, Nat.reduceSub, Nat.reduceBEq, Nat.reduceEqDiff, Nat.reduceLeDiff, Nat.reduceLT, Nat.reduceBneDiff, Int.reduceAdd, Int.cast_ofNat_Int, Int.toNat_natCast, Int.reduceLE, Int.reduceLT, Int.reduceToNat, Int.reduceEq, ↓reduceIte, i0, i2, i3, i4, d, a1, a3, a4, q, hc', b0, s1]
          exact ⟨m, by omega, k + 1, by omega, by rw [e2, e4]; exact ⟨rfl, rfl⟩⟩
  · refine ⟨0, rfl, ?_⟩
    simp only [go_sem, Nat.reduceAdd, Nat.reduceMul, Nat.reduceSub, Nat.reduceBEq, Nat.reduceEqDiff, Nat.reduceLeDiff, Nat.reduceLT, Nat.reduceBneDiff, Int.reduceAdd, Int.cast_ofNat_Int, Int.toNat_natCast, Int.reduceLE, Int.reduceLT, Int.reduceToNat, Int.reduceEq, ↓reduceIte, vN, Nat.zero_min, Nat.zero_sub]


theorem op_loop (x y : Nat → Bool) (B : Heap) (ix iy vx vy : Nat) {K : List Frm} {Q : Post} {e : Env} {G H0 : Heap} (hH : H0 = B ++ G) (hl : lim ≤ B.length)
    (hx : ∀ G, Heap.cells (B ++ G) ix vx = some (bl 128 x)) (hy : ∀ G, Heap.cells (B ++ G) iy vy = some (bl 128 y))
    (h0 : e 0 = .int .i64 0) (h7 : e 7 = .sl ix vx 0 128 true) (h8 : e 8 = .sl iy vy 0 128 true) (h9 : e 9 = .nils) (h10 : e 10 = .int .i64 0)
    (g : ∀ e' G', e' 6 = e 6 → Grown 1 B G' 128 (bl 128 fun k => x k && y k) (e' 9) → ON (PX hook) lim K (.exit 0) e' (B ++ G') Q) :
    GO (PX hook) lim (.loop f75b0) K e H0 Q := by
  subst hH
  refine GO_loop _ (fun m e' H' => ∃ (k : Nat) (G' : Heap), k + m = 128 ∧ e' 0 = .int .i64 0 ∧ e' 6 = e 6 ∧ e' 7 = .sl ix vx 0 128 true ∧ e' 8 = .sl iy vy 0 128 true ∧ e' 10 = .int .i64 (k : Int) ∧ Grown 1 B G' k (bl k fun k => x k && y k) (e' 9) ∧ H' = B ++ G') ?_ 128 _ _ ?_
  · rintro m e' H' ⟨k, G', hk, i0, i6, i7, i8, i10, hg, rfl⟩
    cases m with
    | zero =>
      have hk' : k = 128 := by omega
      subst hk'
      simp only [f75b0, go_sem, Nat.reduceAdd, Nat.reduceMul, Nat.reduceSub, Nat.reduceBEq, Nat.reduceEqDiff, Nat.reduceLeDiff, Nat.reduceLT, Nat.reduceBneDiff, Int.reduceAdd, Int.cast_ofNat_Int, Int.toNat_natCast, Int.reduceLE, Int.reduceLT, Int.reduceToNat, Int.reduceEq, ↓reduceIte, i0, i6, i7, i8, i10]
      exact g _ _ i6 hg
    | succ m =>
      have d : decide ((k : Int) < 128) = true := by rw [decide_eq_true_eq]; omega
      have a1 : IntKind.wrap .i64 ((k : Int) + 1) = ((k + 1 : Nat) : Int) := by rw [wrap_i64] <;> omega
      have a3 : (0 : Int) ≤ (k : Int) := by omega
      have a4 : (k : Int) < 128 := by omega
      have bx := bl_get 128 x k (by omega)
      have byy := bl_get 128 y k (by omega)
      obtain ⟨v', G'', ha, hg'⟩ := hg.push (bytes := 1) (lim := lim) [.bool (x k && y k)] rfl hl (by omega)
      rw [← bl_succ k (fun k => x k && y k)] at hg'
      have z1 : ((0 : Int) == 1) = false := rfl
      have z2 : ((0 : Int) == 2) = false := rfl
      cases hxk : x k
      · rw [hxk] at bx ha
        simp only [Bool.false_and] at ha
        simp only [f75b0, go_sem, Nat.reduceAdd, Nat.reduceMul, Nat.reduceSub, Nat.reduceBEq, Nat.reduceEqDiff, Nat.reduceLeDiff, Nat.reduceLT, Nat.reduceBneDiff, Int.reduceAdd, Int.cast_ofNat_Int, Int.toNat_natCast, Int.reduceLE, Int.reduceLT, Int.reduceToNat, Int.reduceEq, ↓reduceIte, i0, i7, i8, i10, d, a1, a3, a4, hx, hy, bx, byy, z1, z2, ha]
        exact ⟨m, by omega, k + 1, G'', by omega, i6, rfl, hg', rfl⟩
      · rw [hxk] at bx ha
        simp only [Bool.true_and] at ha
        simp only [f75b0, go_sem, Nat.reduceAdd, Nat.reduceMul, Nat.reduceSub, Nat.reduceBEq, Nat.reduceEqDiff, Nat.reduceLeDiff, Nat.reduceLT, Nat.reduceBneDiff, Int.reduceAdd, Int.cast_ofNat_Int, Int.toNat_natCast, Int.reduceLE, Int.reduceLT, Int.reduceToNat, Int.reduceEq, ↓reduceIte, i0, i7, i8, i10, d, a1, a3, a4, hx, hy, bx, byy, z1, z2, ha]
        exact ⟨m, by omega, k + 1, G'', by omega, i6, rfl, hg', rfl⟩
  · exact ⟨0, G, rfl, h0, rfl, h7, h8, h10, by rw [h9]; exact Grown.nil 1 B G, rfl⟩
theorem ev_Op (a b : Adr) : ev (PX hook) lim 75 [.int .i64 0, .agg [u64 (hi a), u64 (lo a)], .agg [u64 (hi b), u64 (lo b)]] H = some (.agg [u64 (hi (a &&& b)), u64 (lo (a &&& b))], H) := by
  refine ev_own _ (PF t75) rfl (by decide) ?_
  simp only [f75, go_sem, Nat.reduceAdd, Nat.reduceMul, Nat.reduceSub, Nat.reduceBEq, Nat.reduceEqDiff, Nat.reduceLeDiff, Nat.reduceLT, Nat.reduceBneDiff, Int.reduceAdd, Int.cast_ofNat_Int, Int.toNat_natCast, Int.reduceLE, Int.reduceLT, Int.reduceToNat, Int.reduceEq, ↓reduceIte, ev_Bits]
  have hbx : ∀ G, Heap.cells ((H ++ [Blk.rw 0 2 [u64 (hi a), u64 (lo a)], .rw 0 2 [u64 (hi b), u64 (lo b)], .rw 0 2 [u64 0#64, u64 0#64], .rw 0 1 (bl 128 (bitA a)), .rw 0 1 (bl 128 (bitA b))]) ++ G) (H.length + 3) 0 = some (bl 128 (bitA a)) := fun G => by simp only [go_sem, Nat.reduceAdd, Nat.reduceMul, Nat.reduceSub, Nat.reduceBEq, Nat.reduceEqDiff, Nat.reduceLeDiff, Nat.reduceLT, Nat.reduceBneDiff, Int.reduceAdd, Int.cast_ofNat_Int, Int.toNat_natCast, Int.reduceLE, Int.reduceLT, Int.reduceToNat, Int.reduceEq, ↓reduceIte]
  have hby : ∀ G, Heap.cells ((H ++ [Blk.rw 0 2 [u64 (hi a), u64 (lo a)], .rw 0 2 [u64 (hi b), u64 (lo b)], .rw 0 2 [u64 0#64, u64 0#64], .rw 0 1 (bl 128 (bitA a)), .rw 0 1 (bl 128 (bitA b))]) ++ G) (H.length + 4) 0 = some (bl 128 (bitA b)) := fun G => by simp only [go_sem, Nat.reduceAdd, Nat.reduceMul, Nat.reduceSub, Nat.reduceBEq, Nat.reduceEqDiff, Nat.reduceLeDiff, Nat.reduceLT, Nat.reduceBneDiff, Int.reduceAdd, Int.cast_ofNat_Int, Int.toNat_natCast, Int.reduceLE, Int.reduceLT, Int.reduceToNat, Int.reduceEq, ↓reduceIte]
  refine op_loop (bitA a) (bitA b) (H ++ [Blk.rw 0 2 [u64 (hi a), u64 (lo a)], .rw 0 2 [u64 (hi b), u64 (lo b)], .rw 0 2 [u64 0#64, u64 0#64], .rw 0 1 (bl 128 (bitA a)), .rw 0 1 (bl 128 (bitA b))]) (H.length + 3) (H.length + 4) 0 0 (G := []) (List.append_nil _).symm (by simp) hbx hby ?_ ?_ ?_ ?_ ?_ ?_
  all_goals (try simp only [go_sem, Nat.reduceAdd, Nat.reduceMul, Nat.reduceSub, Nat.reduceBEq, Nat.reduceEqDiff, Nat.reduceLeDiff, Nat.reduceLT, Nat.reduceBneDiff, Int.reduceAdd, Int.cast_ofNat_Int, Int.toNat_natCast, Int.reduceLE, Int.reduceLT, Int.reduceToNat, Int.reduceEq, ↓reduceIte])
  intro e' G' e6 hg
  obtain ⟨id, ver, h1, h2, h3, h4⟩ := hg.cells (by omega)
  have h4' := h4 []
  rw [List.append_nil] at h4'
  have ew := ev_Words (hook := hook) (lim := H.length) id ver (fun k => bitA a k && bitA b k) false h4'
  simp only [go_sem, Nat.reduceAdd, Nat.reduceMul, Nat.reduceSub, Nat.reduceBEq, Nat.reduceEqDiff, Nat.reduceLeDiff, Nat.reduceLT, Nat.reduceBneDiff, Int.reduceAdd, Int.cast_ofNat_Int, Int.toNat_natCast, Int.reduceLE, Int.reduceLT, Int.reduceToNat, Int.reduceEq, ↓reduceIte] at ew e6
  simp only [go_sem, Nat.reduceAdd, Nat.reduceMul, Nat.reduceSub, Nat.reduceBEq, Nat.reduceEqDiff, Nat.reduceLeDiff, Nat.reduceLT, Nat.reduceBneDiff, Int.reduceAdd, Int.cast_ofNat_Int, Int.toNat_natCast, Int.reduceLE, Int.reduceLT, Int.reduceToNat, Int.reduceEq, ↓reduceIte, h2, ew, e6]
  have e : ofBits (fun k => bitA a k && bitA b k) = a &&& b := by
    rw [← of_bit (a &&& b)]; exact of_congr fun i hi => (bit_and a b i).symm
  rw [e]
theorem mask_loop (n : Int) (B : Heap) {K : List Frm} {Q : Post} {e : Env} {G H0 : Heap} (hH : H0 = B ++ G) (hl : lim ≤ B.length)
    (h0 : e 0 = .int .i64 n) (h3 : e 3 = .nils) (h4 : e 4 = .int .i64 0)
    (g : ∀ e' G', e' 2 = e 2 → Grown 1 B G' 128 (bl 128 fun k => decide ((k : Int) < n)) (e' 3) → ON (PX hook) lim K (.exit 0) e' (B ++ G') Q) :
    GO (PX hook) lim (.loop f58b0) K e H0 Q := by
  subst hH
  refine GO_loop _ (fun m e' H' => ∃ (k : Nat) (G' : Heap), k + m = 128 ∧ e' 0 = .int .i64 n ∧ e' 2 = e 2 ∧ e' 4 = .int .i64 (k : Int) ∧ Grown 1 B G' k (bl k fun k => decide ((k : Int) < n)) (e' 3) ∧ H' = B ++ G') ?_ 128 _ _ ?_
  · rintro m e' H' ⟨k, G', hk, i0, i2, i4, hg, rfl⟩
    cases m with
    | zero =>
      have hk' : k = 128 := by omega
      subst hk'
      simp only [f58b0, go_sem, Nat.reduceAdd, Nat.reduceMul, Nat.reduceSub, Nat.reduceBEq, Nat.reduceEqDiff, Nat.reduceLeDiff, Nat.reduceLT, Nat.reduceBneDiff, Int.reduceAdd, Int.cast_ofNat_Int, Int.toNat_natCast, Int.reduceLE, Int.reduceLT, Int.reduceToNat, Int.reduceEq, ↓reduceIte, i0, i2, i4]
      exact g _ _ i2 hg
    | succ m =>
      have d : decide ((k : Int) < 128) = true := by rw [decide_eq_true_eq]; omega
      have a1 : IntKind.wrap .i64 ((k : Int) + 1) = ((k + 1 : Nat) : Int) := by rw [wrap_i64] <;> omega
      obtain ⟨v', G'', ha, hg'⟩ := hg.push (bytes := 1) (lim := lim) [.bool (decide ((k : Int) < n))] rfl hl (by omega)
      rw [← bl_succ k (fun k => decide ((k : Int) < n))] at hg'
      simp only [f58b0, go_sem, Nat.reduceAdd, Nat.reduceMul, Nat.reduceSub, Nat.reduceBEq, Nat.reduceEqDiff, Nat.reduceLeDiff, Nat.reduceLT, Nat.reduceBneDiff, Int.reduceAdd, Int.cast_ofNat_Int, Int.toNat_natCast, Int.reduceLE, Int.reduceLT, Int.reduceToNat, Int.reduceEq, ↓reduceIte, i0, i4, d, a1, ha]
      exact ⟨m, by omega, k + 1, G'', by omega, i2, rfl, hg', rfl⟩
  · exact ⟨0, G, rfl, h0, rfl, h4, by rw [h3]; exact Grown.nil 1 B G, rfl⟩
theorem ev_rMask (n : Nat) : ev (PX hook) lim 58 [.int .i64 (n : Int)] H = some (.agg [u64 (hi (maskA n)), u64 (lo (maskA n))], H) := by
  refine ev_own _ (PF t58) rfl (by decide) ?_
  simp only [f58, go_sem, Nat.reduceAdd, Nat.reduceMul, Nat.reduceSub, Nat.reduceBEq, Nat.reduceEqDiff, Nat.reduceLeDiff, Nat.reduceLT, Nat.reduceBneDiff, Int.reduceAdd, Int.cast_ofNat_Int, Int.toNat_natCast, Int.reduceLE, Int.reduceLT, Int.reduceToNat, Int.reduceEq, ↓reduceIte]
  refine mask_loop n (H ++ [Blk.rw 0 2 [u64 0#64, u64 0#64]]) (G := []) (List.append_nil _).symm (by simp) ?_ ?_ ?_ ?_
  all_goals (try simp only [go_sem, Nat.reduceAdd, Nat.reduceMul, Nat.reduceSub, Nat.reduceBEq, Nat.reduceEqDiff, Nat.reduceLeDiff, Nat.reduceLT, Nat.reduceBneDiff, Int.reduceAdd, Int.cast_ofNat_Int, Int.toNat_natCast, Int.reduceLE, Int.reduceLT, Int.reduceToNat, Int.reduceEq, ↓reduceIte])
  intro e' G' e2 hg
  obtain ⟨id, ver, h1, h2, h3, h4⟩ := hg.cells (by omega)
  have h4' := h4 []
  rw [List.append_nil] at h4'
  have ew := ev_Words (hook := hook) (lim := H.length) id ver (fun k => decide ((k : Int) < (n : Int))) false h4'
  simp only [go_sem, Nat.reduceAdd, Nat.reduceMul, Nat.reduceSub, Nat.reduceBEq, Nat.reduceEqDiff, Nat.reduceLeDiff, Nat.reduceLT, Nat.reduceBneDiff, Int.reduceAdd, Int.cast_ofNat_Int, Int.toNat_natCast, Int.reduceLE, Int.reduceLT, Int.reduceToNat, Int.reduceEq, ↓reduceIte] at ew e2
  simp only [go_sem, Nat.reduceAdd, Nat.reduceMul, Nat.reduceSub, Nat.reduceBEq, Nat.reduceEqDiff, Nat.reduceLeDiff, Nat.reduceLT, Nat.reduceBneDiff, Int.reduceAdd, Int.cast_ofNat_Int, Int.toNat_natCast, Int.reduceLE, Int.reduceLT, Int.reduceToNat, Int.reduceEq, ↓reduceIte, h2, ew, e2]
  have e : ofBits (fun k => decide ((k : Int) < (n : Int))) = maskA n := by
    rw [← of_bit (maskA n)]; exact of_congr fun i hi => by rw [bit_mask, Bool.eq_iff_iff]; simp only [Bool.and_eq_true, decide_eq_true_eq]; omega
  rw [e]

theorem ev_rCommon (a b : Adr) : ev (PX hook) lim 88 [.agg [u64 (hi a), u64 (lo a)], .agg [u64 (hi b), u64 (lo b)]] H = some (.int .i64 (commonA a b : Int), H) := by
  refine ev_own _ (PF t88) rfl (by decide) ?_
  simp only [f88, go_sem, Nat.reduceAdd, Nat.reduceMul, Nat.reduceSub, Nat.reduceBEq, Nat.reduceEqDiff, Nat.reduceLeDiff, Nat.reduceLT, Nat.reduceBneDiff, Int.reduceAdd, Int.cast_ofNat_Int, Int.toNat_natCast, Int.reduceLE, Int.reduceLT, Int.reduceToNat, Int.reduceEq, ↓reduceIte, ev_Bits]
  have hbx : ∀ k v, Heap.cells (H ++ [Blk.rw 0 2 [u64 (hi a), u64 (lo a)], .rw 0 2 [u64 (hi b), u64 (lo b)], .rw 0 1 (bl 128 (bitA a)), .rw 0 1 (bl 128 (bitA b))]) (H.length + k) v = Heap.cells [Blk.rw 0 2 [u64 (hi a), u64 (lo a)], .rw 0 2 [u64 (hi b), u64 (lo b)], .rw 0 1 (bl 128 (bitA a)), .rw 0 1 (bl 128 (bitA b))] k v := fun k v => Heap.cells_tl _ _ _ _
  refine GO_loop _ (fun m e H' => ∃ k : Nat, k + m = 128 ∧ (∀ j, j < k → bitA a j = bitA b j) ∧ e 5 = .sl (H.length + 2) 0 0 128 true ∧ e 6 = .sl (H.length + 3) 0 0 128 true ∧ e 7 = .int .i64 (k : Int) ∧ H' = H ++ [Blk.rw 0 2 [u64 (hi a), u64 (lo a)], .rw 0 2 [u64 (hi b), u64 (lo b)], .rw 0 1 (bl 128 (bitA a)), .rw 0 1 (bl 128 (bitA b))]) ?_ 128 _ _ ?_
  · rintro m e H' ⟨k, hk, hj, i5, i6, i7, rfl⟩
    cases m with
    | zero =>
      have hk' : k = 128 := by omega
      subst hk'
      simp only [f88b0, go_sem, Nat.reduceAdd, Nat.reduceMul, Nat.reduceSub, Nat.reduceBEq, Nat.reduceEqDiff, Nat.reduceLeDiff, Nat.reduceLT, Nat.reduceBneDiff, Int.reduceAdd, Int.cast_ofNat_Int, Int.toNat_natCast, Int.reduceLE, Int.reduceLT, Int.reduceToNat, Int.reduceEq, ↓reduceIte, i5, i6, i7]
      rw [common_eq a b 128 (by omega) hj (Or.inl rfl)]; rfl
    | succ m =>
      have d : decide ((k : Int) < 128) = true := by rw [decide_eq_true_eq]; omega
      have a1 : IntKind.wrap .i64 ((k : Int) + 1) = ((k + 1 : Nat) : Int) := by rw [wrap_i64] <;> omega
      have a3 : (0 : Int) ≤ (k : Int) := by omega
      have a4 : (k : Int) < 128 := by omega
      have bx := bl_get 128 (bitA a) k (by omega)
      have byy := bl_get 128 (bitA b) k (by omega)
      by_cases hb : bitA a k = bitA b k
      · have hb' : (bitA a k == bitA b k) = true := by simp [hb]
        simp only [f88b0, go_sem, Nat.reduceAdd, Nat.reduceMul, Nat.reduceSub, Nat.reduceBEq, Nat.reduceEqDiff, Nat.reduceLeDiff, Nat.reduceLT, Nat.reduceBneDiff, Int.reduceAdd, Int.cast_ofNat_Int, Int.toNat_natCast, Int.reduceLE, Int.reduceLT, Int.reduceToNat, Int.reduceEq, ↓reduceIte, i5, i6, i7, d, a1, a3, a4, bx, byy, hb']
        refine ⟨m, by omega, k + 1, by omega, fun j hj' => ?_, rfl⟩
        by_cases e : j = k
        · subst e; exact hb
        · exact hj j (by omega)
      · have hb' : (bitA a k == bitA b k) = false := by simp [hb]
        simp only [f88b0, go_sem, Nat.reduceAdd, Nat.reduceMul, Nat.reduceSub, Nat.reduceBEq, Nat.reduceEqDiff, Nat.reduceLeDiff, Nat.reduceLT, Nat.reduceBneDiff, Int.reduceAdd, Int.cast_ofNat_Int, Int.toNat_natCast, Int.reduceLE, Int.reduceLT, Int.reduceToNat, Int.reduceEq, ↓reduceIte, i5, i6, i7, d, a1, a3, a4, bx, byy, hb']
        rw [common_eq a b k (by omega) hj (Or.inr hb)]
  · exact ⟨0, rfl, fun j hj => by omega, by simp only [go_sem, Nat.reduceAdd, Nat.reduceMul, Nat.reduceSub, Nat.reduceBEq, Nat.reduceEqDiff, Nat.reduceLeDiff, Nat.reduceLT, Nat.reduceBneDiff, Int.reduceAdd, Int.cast_ofNat_Int, Int.toNat_natCast, Int.reduceLE, Int.reduceLT, Int.reduceToNat, Int.reduceEq, ↓reduceIte], by simp only [go_sem, Nat.reduceAdd, Nat.reduceMul, Nat.reduceSub, Nat.reduceBEq, Nat.reduceEqDiff, Nat.reduceLeDiff, Nat.reduceLT, Nat.reduceBneDiff, Int.reduceAdd, Int.cast_ofNat_Int, Int.toNat_natCast, Int.reduceLE, Int.reduceLT, Int.reduceToNat, Int.reduceEq, ↓reduceIte], by simp only [go_sem, Nat.reduceAdd, Nat.reduceMul, Nat.reduceSub, Nat.reduceBEq, Nat.reduceEqDiff, Nat.reduceLeDiff, Nat.reduceLT, Nat.reduceBneDiff, Int.reduceAdd, Int.cast_ofNat_Int, Int.toNat_natCast, Int.reduceLE, Int.reduceLT, Int.reduceToNat, Int.reduceEq, ↓reduceIte], rfl⟩
theorem ev_rCompare (a b : Adr) : ev (PX hook) lim 69 [.agg [u64 (hi a), u64 (lo a)], .agg [u64 (hi b), u64 (lo b)]] H = some (.int .i64 (cmpA a b), H) := by
  refine ev_own _ (PF t69) rfl (by decide) ?_
  by_cases h : commonA a b = 128
  · have h1 : ((commonA a b : Int) == 128) = true := by simp [h]
    simp only [f69, go_sem, Nat.reduceAdd, Nat.reduceMul, Nat.reduceSub, Nat.reduceBEq, Nat.reduceEqDiff, Nat.reduceLeDiff, Nat.reduceLT, Nat.reduceBneDiff, Int.reduceAdd, Int.cast_ofNat_Int, Int.toNat_natCast, Int.reduceLE, Int.reduceLT, Int.reduceToNat, Int.reduceEq, ↓reduceIte, ev_rCommon, h1]
    simp [cmpA, h]
  · have hle := common_le a b
    have h1 : ((commonA a b : Int) == 128) = false := by simp; omega
    have a3 : (0 : Int) ≤ (commonA a b : Int) := by omega
    have a4 : (commonA a b : Int) < 128 := by omega
    have bx := bl_get 128 (bitA b) (commonA a b) (by omega)
    cases hb : bitA b (commonA a b)
    · rw [hb] at bx
      simp only [f69, go_sem, Nat.reduceAdd, Nat.reduceMul, Nat.reduceSub, Nat.reduceBEq, Nat.reduceEqDiff, Nat.reduceLeDiff, Nat.reduceLT, Nat.reduceBneDiff, Int.reduceAdd, Int.cast_ofNat_Int, Int.toNat_natCast, Int.reduceLE, Int.reduceLT, Int.reduceToNat, Int.reduceEq, ↓reduceIte, ev_rCommon, ev_Bits, h1, a3, a4, bx]
      simp [cmpA, h, hb]
    · rw [hb] at bx
      simp only [f69, go_sem, Nat.reduceAdd, Nat.reduceMul, Nat.reduceSub, Nat.reduceBEq, Nat.reduceEqDiff, Nat.reduceLeDiff, Nat.reduceLT, Nat.reduceBneDiff, Int.reduceAdd, Int.cast_ofNat_Int, Int.toNat_natCast, Int.reduceLE, Int.reduceLT, Int.reduceToNat, Int.reduceEq, ↓reduceIte, ev_rCommon, ev_Bits, h1, a3, a4, bx]
      simp [cmpA, h, hb]
theorem ev_near (n : Int) : ev (PX hook) lim 76 [.int .i64 n] H = some (.int .i64 (near n : Int), H) := by
  refine ev_own _ (PF t76) rfl (by decide) ?_
  rw [near_cast]
  cases h1 : decide (n < 0) <;> cases h2 : decide (128 < n) <;> simp only [f76, go_sem, Nat.reduceAdd, Nat.reduceMul, Nat.reduceSub, Nat.reduceBEq, Nat.reduceEqDiff, Nat.reduceLeDiff, Nat.reduceLT, Nat.reduceBneDiff, Int.reduceAdd, Int.cast_ofNat_Int, Int.toNat_natCast, Int.reduceLE, Int.reduceLT, Int.reduceToNat, Int.reduceEq, ↓reduceIte, h1, h2] <;> simp only [decide_eq_true_eq, decide_eq_false_iff_not] at h1 h2 <;> congr 1 <;> omega
theorem ev_rMake (a : Adr) (n : Int) : ev (PX hook) lim 57 [.agg [u64 (hi a), u64 (lo a)], .int .i64 n] H = some (.agg [u64 (hi (cutA a (near n))), u64 (lo (cutA a (near n))), .int .i64 (near n : Int)], H) := by
  refine ev_own _ (PF t57) rfl (by decide) ?_
  simp only [f57, go_sem, Nat.reduceAdd, Nat.reduceMul, Nat.reduceSub, Nat.reduceBEq, Nat.reduceEqDiff, Nat.reduceLeDiff, Nat.reduceLT, Nat.reduceBneDiff, Int.reduceAdd, Int.cast_ofNat_Int, Int.toNat_natCast, Int.reduceLE, Int.reduceLT, Int.reduceToNat, Int.reduceEq, ↓reduceIte, ev_near, ev_rMask, ev_Op, cutA]
theorem ev_Make (a : Adr) (n : Int) : ev (PX hook) lim 21 [.agg [u64 (hi a), u64 (lo a)], .int .i64 n] H = some (.agg [u64 (hi (cutA a (near n))), u64 (lo (cutA a (near n))), .int .i64 (near n : Int)], H) := by
  refine ev_own _ (PF t21) rfl (by decide) ?_
  have e0 : min (max n 0) 128 = ((near n : Nat) : Int) := (near_cast n).symm
  have e1 : near ((near n : Nat) : Int) = near n := near_nat _ (near_le n)
  simp only [f21, go_sem, Nat.reduceAdd, Nat.reduceMul, Nat.reduceSub, Nat.reduceBEq, Nat.reduceEqDiff, Nat.reduceLeDiff, Nat.reduceLT, Nat.reduceBneDiff, Int.reduceAdd, Int.cast_ofNat_Int, Int.toNat_natCast, Int.reduceLE, Int.reduceLT, Int.reduceToNat, Int.reduceEq, ↓reduceIte, e0, ev_Cut, e1]
theorem ev_rRight (w : Int) (a : Adr) (n : Int) : ev (PX hook) lim 71 [.int .i64 w, .agg [u64 (hi a), u64 (lo a), .int .i64 n]] H = some (.bool (rightP w a n), H) := by
  refine ev_own _ (PF t71) rfl (by decide) ?_
  have hfam : family w = (w == 32 || w == 128) := rfl
  have n32 : (w != 32) = !(w == 32) := rfl
  have n128 : (w != 128) = !(w == 128) := rfl
  have key : ∀ (h1 : family w = true) (h2 : 0 ≤ n) (h3 : n ≤ w) {K : List Frm} {Q : Post} {e : Env},
      e 5 = .sl (H.length + 1) 0 0 128 true → e 6 = .int .i64 n →
      (cutA a n.toNat = a → ∀ e' : Env, ON (PX hook) H.length K (.exit 0) e' (H ++ [Blk.rw 0 3 [u64 (hi a), u64 (lo a), .int .i64 n], .rw 0 1 (bl 128 (bitA a))]) Q) →
      (cutA a n.toNat ≠ a → ∀ e' : Env, e' 4 = .bool false → ON (PX hook) H.length K .ret e' (H ++ [Blk.rw 0 3 [u64 (hi a), u64 (lo a), .int .i64 n], .rw 0 1 (bl 128 (bitA a))]) Q) →
      GO (PX hook) H.length (.loop f71b0) K e (H ++ [Blk.rw 0 3 [u64 (hi a), u64 (lo a), .int .i64 n], .rw 0 1 (bl 128 (bitA a))]) Q := by
    intro h1 h2 h3 K Q e e5 e6 g1 g2
    rw [family_iff] at h1
    refine GO_loop _ (fun m e H' => ∃ k : Nat, k + m = 128 ∧ n.toNat ≤ k ∧ (∀ j, n.toNat ≤ j → j < k → bitA a j = false) ∧ e 5 = .sl (H.length + 1) 0 0 128 true ∧ e 6 = .int .i64 (k : Int) ∧ H' = H ++ [Blk.rw 0 3 [u64 (hi a), u64 (lo a), .int .i64 n], .rw 0 1 (bl 128 (bitA a))]) ?_ (128 - n.toNat) _ _ ?_
    · rintro m e H' ⟨k, hk, hk2, hj, i5, i6, rfl⟩
      cases m with
      | zero =>
        have hk' : k = 128 := by omega
        subst hk'
        simp only [f71b0, go_sem, Nat.reduceAdd, Nat.reduceMul, Nat.reduceSub, Nat.reduceBEq, Nat.reduceEqDiff, Nat.reduceLeDiff, Nat.reduceLT, Nat.reduceBneDiff, Int.reduceAdd, Int.cast_ofNat_Int, Int.toNat_natCast, Int.reduceLE, Int.reduceLT, Int.reduceToNat, Int.reduceEq, ↓reduceIte, i5, i6]
        exact g1 ((cut_same a n.toNat).2 fun k h h' => hj k h h') _
      | succ m =>
        have d : decide ((k : Int) < 128) = true := by rw [decide_eq_true_eq]; omega
        have a1 : IntKind.wrap .i64 ((k : Int) + 1) = ((k + 1 : Nat) : Int) := by rw [wrap_i64] <;> omega
        have a3 : (0 : Int) ≤ (k : Int) := by omega
        have a4 : (k : Int) < 128 := by omega
        have bx := bl_get 128 (bitA a) k (by omega)
        cases hb : bitA a k
        · rw [hb] at bx
          simp only [f71b0, go_sem, Nat.reduceAdd, Nat.reduceMul, Nat.reduceSub, Nat.reduceBEq, Nat.reduceEqDiff, Nat.reduceLeDiff, Nat.reduceLT, Nat.reduceBneDiff, Int.reduceAdd, Int.cast_ofNat_Int, Int.toNat_natCast, Int.reduceLE, Int.reduceLT, Int.reduceToNat, Int.reduceEq, ↓reduceIte, i5, i6, d, a1, a3, a4, bx]
          refine ⟨m, by omega, k + 1, by omega, by omega, fun j h hj' => ?_, rfl⟩
          by_cases e : j = k
          · subst e; exact hb
          · exact hj j h (by omega)
        · rw [hb] at bx
          simp only [f71b0, go_sem, Nat.reduceAdd, Nat.reduceMul, Nat.reduceSub, Nat.reduceBEq, Nat.reduceEqDiff, Nat.reduceLeDiff, Nat.reduceLT, Nat.reduceBneDiff, Int.reduceAdd, Int.cast_ofNat_Int, Int.toNat_natCast, Int.reduceLE, Int.reduceLT, Int.reduceToNat, Int.reduceEq, ↓reduceIte, i5, i6, d, a1, a3, a4, bx]
          refine g2 (fun h => ?_) _ (by simp only [go_sem, Nat.reduceAdd, Nat.reduceMul, Nat.reduceSub, Nat.reduceBEq, Nat.reduceEqDiff, Nat.reduceLeDiff, Nat.reduceLT, Nat.reduceBneDiff, Int.reduceAdd, Int.cast_ofNat_Int, Int.toNat_natCast, Int.reduceLE, Int.reduceLT, Int.reduceToNat, Int.reduceEq, ↓reduceIte])
          have := (cut_same a n.toNat).1 h k hk2 (by omega)
          rw [hb] at this; cases this
    · exact ⟨n.toNat, by omega, Nat.le_refl _, fun j h h' => by omega, e5, by rw [e6]; congr 1; omega, rfl⟩
  unfold rightP
  rw [hfam]
  have base : ∀ (h1 : (w == 32 || w == 128) = true), GO (PX hook) H.length f71.body [] (Env.ofList [.int .i64 w, .agg [u64 (hi a), u64 (lo a), .int .i64 n]]) H (endX f71.res f71.mode H.length fun r H' => r = .bool (decide (0 ≤ n) && (decide (n ≤ w) && (cutA a n.toNat == a))) ∧ H' = H) := by
    intro h1
    have h1' := h1
    rw [← hfam, family_iff] at h1'
    cases h2 : decide (n < 0)
    · cases h3 : decide (w < n)
      · have h2' : decide (0 ≤ n) = true := by simp only [decide_eq_true_eq, decide_eq_false_iff_not] at h2 ⊢; omega
        have h3' : decide (n ≤ w) = true := by simp only [decide_eq_true_eq, decide_eq_false_iff_not] at h3 ⊢; omega
        rw [h2', h3']
        simp only [decide_eq_true_eq] at h2' h3'
        rcases h1' with rfl | rfl
        · simp only [f71, go_sem, Nat.reduceAdd, Nat.reduceMul, Nat.reduceSub, Nat.reduceBEq, Nat.reduceEqDiff, Nat.reduceLeDiff, Nat.reduceLT, Nat.reduceBneDiff, Int.reduceAdd, Int.cast_ofNat_Int, Int.toNat_natCast, Int.reduceLE, Int.reduceLT, Int.reduceToNat, Int.reduceEq, ↓reduceIte, ev_Bits, h2, h3, bne, Int.reduceBEq]
          refine key rfl h2' h3' (by simp only [go_sem, Nat.reduceAdd, Nat.reduceMul, Nat.reduceSub, Nat.reduceBEq, Nat.reduceEqDiff, Nat.reduceLeDiff, Nat.reduceLT, Nat.reduceBneDiff, Int.reduceAdd, Int.cast_ofNat_Int, Int.toNat_natCast, Int.reduceLE, Int.reduceLT, Int.reduceToNat, Int.reduceEq, ↓reduceIte]) (by simp only [go_sem, Nat.reduceAdd, Nat.reduceMul, Nat.reduceSub, Nat.reduceBEq, Nat.reduceEqDiff, Nat.reduceLeDiff, Nat.reduceLT, Nat.reduceBneDiff, Int.reduceAdd, Int.cast_ofNat_Int, Int.toNat_natCast, Int.reduceLE, Int.reduceLT, Int.reduceToNat, Int.reduceEq, ↓reduceIte]) (fun h e' => ?_) (fun h e' h4 => ?_)
          · simp only [go_sem, Nat.reduceAdd, Nat.reduceMul, Nat.reduceSub, Nat.reduceBEq, Nat.reduceEqDiff, Nat.reduceLeDiff, Nat.reduceLT, Nat.reduceBneDiff, Int.reduceAdd, Int.cast_ofNat_Int, Int.toNat_natCast, Int.reduceLE, Int.reduceLT, Int.reduceToNat, Int.reduceEq, ↓reduceIte, h]; simp
          · simp only [go_sem, Nat.reduceAdd, Nat.reduceMul, Nat.reduceSub, Nat.reduceBEq, Nat.reduceEqDiff, Nat.reduceLeDiff, Nat.reduceLT, Nat.reduceBneDiff, Int.reduceAdd, Int.cast_ofNat_Int, Int.toNat_natCast, Int.reduceLE, Int.reduceLT, Int.reduceToNat, Int.reduceEq, ↓reduceIte, h4]; simp [h]
        · simp only [f71, go_sem, Nat.reduceAdd, Nat.reduceMul, Nat.reduceSub, Nat.reduceBEq, Nat.reduceEqDiff, Nat.reduceLeDiff, Nat.reduceLT, Nat.reduceBneDiff, Int.reduceAdd, Int.cast_ofNat_Int, Int.toNat_natCast, Int.reduceLE, Int.reduceLT, Int.reduceToNat, Int.reduceEq, ↓reduceIte, ev_Bits, h2, h3, bne, Int.reduceBEq]
          refine key rfl h2' h3' (by simp only [go_sem, Nat.reduceAdd, Nat.reduceMul, Nat.reduceSub, Nat.reduceBEq, Nat.reduceEqDiff, Nat.reduceLeDiff, Nat.reduceLT, Nat.reduceBneDiff, Int.reduceAdd, Int.cast_ofNat_Int, Int.toNat_natCast, Int.reduceLE, Int.reduceLT, Int.reduceToNat, Int.reduceEq, ↓reduceIte]) (by simp only [go_sem, Nat.reduceAdd, Nat.reduceMul, Nat.reduceSub, Nat.reduceBEq, Nat.reduceEqDiff, Nat.reduceLeDiff, Nat.reduceLT, Nat.reduceBneDiff, Int.reduceAdd, Int.cast_ofNat_Int, Int.toNat_natCast, Int.reduceLE, Int.reduceLT, Int.reduceToNat, Int.reduceEq, ↓reduceIte]) (fun h e' => ?_) (fun h e' h4 => ?_)
          · simp only [go_sem, Nat.reduceAdd, Nat.reduceMul, Nat.reduceSub, Nat.reduceBEq, Nat.reduceEqDiff, Nat.reduceLeDiff, Nat.reduceLT, Nat.reduceBneDiff, Int.reduceAdd, Int.cast_ofNat_Int, Int.toNat_natCast, Int.reduceLE, Int.reduceLT, Int.reduceToNat, Int.reduceEq, ↓reduceIte, h]; simp
          · simp only [go_sem, Nat.reduceAdd, Nat.reduceMul, Nat.reduceSub, Nat.reduceBEq, Nat.reduceEqDiff, Nat.reduceLeDiff, Nat.reduceLT, Nat.reduceBneDiff, Int.reduceAdd, Int.cast_ofNat_Int, Int.toNat_natCast, Int.reduceLE, Int.reduceLT, Int.reduceToNat, Int.reduceEq, ↓reduceIte, h4]; simp [h]
      · have h2' : decide (0 ≤ n) = true := by simp only [decide_eq_true_eq, decide_eq_false_iff_not] at h2 ⊢; omega
        have h3' : decide (n ≤ w) = false := by simp only [decide_eq_true_eq, decide_eq_false_iff_not] at h3 ⊢; omega
        rw [h2', h3']
        rcases h1' with rfl | rfl
        · simp only [f71, go_sem, Nat.reduceAdd, Nat.reduceMul, Nat.reduceSub, Nat.reduceBEq, Nat.reduceEqDiff, Nat.reduceLeDiff, Nat.reduceLT, Nat.reduceBneDiff, Int.reduceAdd, Int.cast_ofNat_Int, Int.toNat_natCast, Int.reduceLE, Int.reduceLT, Int.reduceToNat, Int.reduceEq, ↓reduceIte, ev_Bits, h2, h3, bne, Int.reduceBEq]
        · simp only [f71, go_sem, Nat.reduceAdd, Nat.reduceMul, Nat.reduceSub, Nat.reduceBEq, Nat.reduceEqDiff, Nat.reduceLeDiff, Nat.reduceLT, Nat.reduceBneDiff, Int.reduceAdd, Int.cast_ofNat_Int, Int.toNat_natCast, Int.reduceLE, Int.reduceLT, Int.reduceToNat, Int.reduceEq, ↓reduceIte, ev_Bits, h2, h3, bne, Int.reduceBEq]
    · have h2' : decide (0 ≤ n) = false := by simp only [decide_eq_true_eq, decide_eq_false_iff_not] at h2 ⊢; omega
      rw [h2']
      rcases h1' with rfl | rfl
      · simp only [f71, go_sem, Nat.reduceAdd, Nat.reduceMul, Nat.reduceSub, Nat.reduceBEq, Nat.reduceEqDiff, Nat.reduceLeDiff, Nat.reduceLT, Nat.reduceBneDiff, Int.reduceAdd, Int.cast_ofNat_Int, Int.toNat_natCast, Int.reduceLE, Int.reduceLT, Int.reduceToNat, Int.reduceEq, ↓reduceIte, ev_Bits, h2, bne, Int.reduceBEq]
      · simp only [f71, go_sem, Nat.reduceAdd, Nat.reduceMul, Nat.reduceSub, Nat.reduceBEq, Nat.reduceEqDiff, Nat.reduceLeDiff, Nat.reduceLT, Nat.reduceBneDiff, Int.reduceAdd, Int.cast_ofNat_Int, Int.toNat_natCast, Int.reduceLE, Int.reduceLT, Int.reduceToNat, Int.reduceEq, ↓reduceIte, ev_Bits, h2, bne, Int.reduceBEq]
  cases h1 : (w == 32 || w == 128)
  · simp only [Bool.or_eq_false_iff] at h1
    simp only [f71, go_sem, Nat.reduceAdd, Nat.reduceMul, Nat.reduceSub, Nat.reduceBEq, Nat.reduceEqDiff, Nat.reduceLeDiff, Nat.reduceLT, Nat.reduceBneDiff, Int.reduceAdd, Int.cast_ofNat_Int, Int.toNat_natCast, Int.reduceLE, Int.reduceLT, Int.reduceToNat, Int.reduceEq, ↓reduceIte, n32, n128, h1.1, h1.2]
  · rw [Bool.true_and]; exact base h1
theorem ev_rMatch (a b : Adr) (n : Int) : ev (PX hook) lim 90 [.agg [u64 (hi a), u64 (lo a), .int .i64 n], .agg [u64 (hi b), u64 (lo b)]] H = some (.bool (matchP a n b), H) := by
  refine ev_own _ (PF t90) rfl (by decide) ?_
  simp only [f90, go_sem, Nat.reduceAdd, Nat.reduceMul, Nat.reduceSub, Nat.reduceBEq, Nat.reduceEqDiff, Nat.reduceLeDiff, Nat.reduceLT, Nat.reduceBneDiff, Int.reduceAdd, Int.cast_ofNat_Int, Int.toNat_natCast, Int.reduceLE, Int.reduceLT, Int.reduceToNat, Int.reduceEq, ↓reduceIte, ev_Bits]
  refine GO_loop _ (fun m e H' => ∃ k : Nat, k + m = near n ∧ (∀ j, j < k → bitA a j = bitA b j) ∧ e 2 = .ptr H.length 0 0 ∧ e 5 = .sl (H.length + 2) 0 0 128 true ∧ e 6 = .sl (H.length + 3) 0 0 128 true ∧ e 7 = .int .i64 (k : Int) ∧ H' = H ++ [Blk.rw 0 3 [u64 (hi a), u64 (lo a), .int .i64 n], .rw 0 2 [u64 (hi b), u64 (lo b)], .rw 0 1 (bl 128 (bitA a)), .rw 0 1 (bl 128 (bitA b))]) ?_ (near n) _ _ ?_
  · have hn := near_le n
    rintro m e H' ⟨k, hk, hj, i2, i5, i6, i7, rfl⟩
    cases m with
    | zero =>
      have d : decide ((k : Int) < (near n : Int)) = false := by rw [decide_eq_false_iff_not]; omega
      simp only [f90b0, go_sem, Nat.reduceAdd, Nat.reduceMul, Nat.reduceSub, Nat.reduceBEq, Nat.reduceEqDiff, Nat.reduceLeDiff, Nat.reduceLT, Nat.reduceBneDiff, Int.reduceAdd, Int.cast_ofNat_Int, Int.toNat_natCast, Int.reduceLE, Int.reduceLT, Int.reduceToNat, Int.reduceEq, ↓reduceIte, i2, i5, i6, i7, ev_near, d]
      have : matchP a n b = true := by
        unfold matchP; rw [decide_eq_true_eq, common_iff _ _ _ hn]
        intro j hj'; exact hj j (by omega)
      rw [this]
    | succ m =>
      have d : decide ((k : Int) < (near n : Int)) = true := by rw [decide_eq_true_eq]; omega
      have a1 : IntKind.wrap .i64 ((k : Int) + 1) = ((k + 1 : Nat) : Int) := by rw [wrap_i64] <;> omega
      have a3 : (0 : Int) ≤ (k : Int) := by omega
      have a4 : (k : Int) < 128 := by omega
      have bx := bl_get 128 (bitA a) k (by omega)
      have byy := bl_get 128 (bitA b) k (by omega)
      by_cases hb : bitA a k = bitA b k
      · have hb' : (bitA a k == bitA b k) = true := by simp [hb]
        simp only [f90b0, go_sem, Nat.reduceAdd, Nat.reduceMul, Nat.reduceSub, Nat.reduceBEq, Nat.reduceEqDiff, Nat.reduceLeDiff, Nat.reduceLT, Nat.reduceBneDiff, Int.reduceAdd, Int.cast_ofNat_Int, Int.toNat_natCast, Int.reduceLE, Int.reduceLT, Int.reduceToNat, Int.reduceEq, ↓reduceIte, i2, i5, i6, i7, ev_near, d, a1, a3, a4, bx, byy, hb']
        refine ⟨m, by omega, k + 1, by omega, fun j hj' => ?_, rfl⟩
        by_cases e : j = k
        · subst e; exact hb
        · exact hj j (by omega)
      · have hb' : (bitA a k == bitA b k) = false := by simp [hb]
        simp only [f90b0, go_sem, Nat.reduceAdd, Nat.reduceMul, Nat.reduceSub, Nat.reduceBEq, Nat.reduceEqDiff, Nat.reduceLeDiff, Nat.reduceLT, Nat.reduceBneDiff, Int.reduceAdd, Int.cast_ofNat_Int, Int.toNat_natCast, Int.reduceLE, Int.reduceLT, Int.reduceToNat, Int.reduceEq, ↓reduceIte, i2, i5, i6, i7, ev_near, d, a1, a3, a4, bx, byy, hb']
        have : matchP a n b = false := by
          unfold matchP; rw [decide_eq_false_iff_not, common_iff _ _ _ hn]
          intro h; exact hb (h k (by omega))
        rw [this]
  · exact ⟨0, by omega, fun j hj => by omega, by simp only [go_sem, Nat.reduceAdd, Nat.reduceMul, Nat.reduceSub, Nat.reduceBEq, Nat.reduceEqDiff, Nat.reduceLeDiff, Nat.reduceLT, Nat.reduceBneDiff, Int.reduceAdd, Int.cast_ofNat_Int, Int.toNat_natCast, Int.reduceLE, Int.reduceLT, Int.reduceToNat, Int.reduceEq, ↓reduceIte], by simp only [go_sem, Nat.reduceAdd, Nat.reduceMul, Nat.reduceSub, Nat.reduceBEq, Nat.reduceEqDiff, Nat.reduceLeDiff, Nat.reduceLT, Nat.reduceBneDiff, Int.reduceAdd, Int.cast_ofNat_Int, Int.toNat_natCast, Int.reduceLE, Int.reduceLT, Int.reduceToNat, Int.reduceEq, ↓reduceIte], by simp only [go_sem, Nat.reduceAdd, Nat.reduceMul, Nat.reduceSub, Nat.reduceBEq, Nat.reduceEqDiff, Nat.reduceLeDiff, Nat.reduceLT, Nat.reduceBneDiff, Int.reduceAdd, Int.cast_ofNat_Int, Int.toNat_natCast, Int.reduceLE, Int.reduceLT, Int.reduceToNat, Int.reduceEq, ↓reduceIte], by simp only [go_sem, Nat.reduceAdd, Nat.reduceMul, Nat.reduceSub, Nat.reduceBEq, Nat.reduceEqDiff, Nat.reduceLeDiff, Nat.reduceLT, Nat.reduceBneDiff, Int.reduceAdd, Int.cast_ofNat_Int, Int.toNat_natCast, Int.reduceLE, Int.reduceLT, Int.reduceToNat, Int.reduceEq, ↓reduceIte], rfl⟩
theorem ev_rCmp (a b : Adr) (n m : Int) : ev (PX hook) lim 51 [.agg [u64 (hi a), u64 (lo a), .int .i64 n], .agg [u64 (hi b), u64 (lo b), .int .i64 m]] H = some (.int .i64 (cmpP a n b m), H) := by
  refine ev_own _ (PF t51) rfl (by decide) ?_
  by_cases h : cmpA a b = 0
  · have h0 : ((0 : Int) == 0) = true := rfl
    cases h1 : decide (n < m)
    · cases h2 : decide (m < n) <;> simp only [f51, go_sem, Nat.reduceAdd, Nat.reduceMul, Nat.reduceSub, Nat.reduceBEq, Nat.reduceEqDiff, Nat.reduceLeDiff, Nat.reduceLT, Nat.reduceBneDiff, Int.reduceAdd, Int.cast_ofNat_Int, Int.toNat_natCast, Int.reduceLE, Int.reduceLT, Int.reduceToNat, Int.reduceEq, ↓reduceIte, ev_rCompare, h, h0, h1, h2] <;> simp only [decide_eq_true_eq, decide_eq_false_iff_not] at h1 h2 <;> simp [cmpP, h, h1, h2]
    · simp only [f51, go_sem, Nat.reduceAdd, Nat.reduceMul, Nat.reduceSub, Nat.reduceBEq, Nat.reduceEqDiff, Nat.reduceLeDiff, Nat.reduceLT, Nat.reduceBneDiff, Int.reduceAdd, Int.cast_ofNat_Int, Int.toNat_natCast, Int.reduceLE, Int.reduceLT, Int.reduceToNat, Int.reduceEq, ↓reduceIte, ev_rCompare, h, h0, h1]
      simp only [decide_eq_true_eq] at h1
      simp [cmpP, h, h1]
  · have h0 : (cmpA a b == 0) = false := by simp [h]
    simp only [f51, go_sem, Nat.reduceAdd, Nat.reduceMul, Nat.reduceSub, Nat.reduceBEq, Nat.reduceEqDiff, Nat.reduceLeDiff, Nat.reduceLT, Nat.reduceBneDiff, Int.reduceAdd, Int.cast_ofNat_Int, Int.toNat_natCast, Int.reduceLE, Int.reduceLT, Int.reduceToNat, Int.reduceEq, ↓reduceIte, ev_rCompare, h0]
    simp [cmpP, h]
theorem ev_Match (a b : Adr) (n : Int) : ev (PX hook) lim 72 [.agg [u64 (hi a), u64 (lo a), .int .i64 n], .agg [u64 (hi b), u64 (lo b)]] H = some (.bool (matchP a n b), H) := by
  refine ev_own _ (PF t72) rfl (by decide) ?_
  have e0 : min (max n 0) 128 = ((near n : Nat) : Int) := (near_cast n).symm
  simp only [f72, go_sem, Nat.reduceAdd, Nat.reduceMul, Nat.reduceSub, Nat.reduceBEq, Nat.reduceEqDiff, Nat.reduceLeDiff, Nat.reduceLT, Nat.reduceBneDiff, Int.reduceAdd, Int.cast_ofNat_Int, Int.toNat_natCast, Int.reduceLE, Int.reduceLT, Int.reduceToNat, Int.reduceEq, ↓reduceIte, ev_Common, e0]
  unfold matchP
  congr 1
  rw [decide_eq_decide]; omega
theorem ev_Covers (a b : Adr) (n m : Int) : ev (PX hook) lim 53 [.agg [u64 (hi a), u64 (lo a), .int .i64 n], .agg [u64 (hi b), u64 (lo b), .int .i64 m]] H = some (.bool (coversP a n b m), H) := by
  refine ev_own _ (PF t53) rfl (by decide) ?_
  unfold coversP
  cases h : decide (n ≤ m) <;> simp only [f53, go_sem, Nat.reduceAdd, Nat.reduceMul, Nat.reduceSub, Nat.reduceBEq, Nat.reduceEqDiff, Nat.reduceLeDiff, Nat.reduceLT, Nat.reduceBneDiff, Int.reduceAdd, Int.cast_ofNat_Int, Int.toNat_natCast, Int.reduceLE, Int.reduceLT, Int.reduceToNat, Int.reduceEq, ↓reduceIte, ev_Match, h]
theorem ev_rRightR (w : Int) (a : Adr) (n x : Int) : ev (PX hook) lim 50 [.int .i64 w, .agg [u64 (hi a), u64 (lo a), .int .i64 n, .int .i64 x]] H = some (.bool (rightR w a n x), H) := by
  refine ev_own _ (PF t50) rfl (by decide) ?_
  unfold rightR
  cases h : rightP w a n
  · simp only [f50, go_sem, Nat.reduceAdd, Nat.reduceMul, Nat.reduceSub, Nat.reduceBEq, Nat.reduceEqDiff, Nat.reduceLeDiff, Nat.reduceLT, Nat.reduceBneDiff, Int.reduceAdd, Int.cast_ofNat_Int, Int.toNat_natCast, Int.reduceLE, Int.reduceLT, Int.reduceToNat, Int.reduceEq, ↓reduceIte, ev_rRight, h]
  · cases h1 : decide (1 ≤ x) <;> simp only [f50, go_sem, Nat.reduceAdd, Nat.reduceMul, Nat.reduceSub, Nat.reduceBEq, Nat.reduceEqDiff, Nat.reduceLeDiff, Nat.reduceLT, Nat.reduceBneDiff, Int.reduceAdd, Int.cast_ofNat_Int, Int.toNat_natCast, Int.reduceLE, Int.reduceLT, Int.reduceToNat, Int.reduceEq, ↓reduceIte, ev_rRight, h, h1]
theorem ev_OfP (a : Adr) (n : Int) : ev (PX hook) lim 59 [.agg [u64 (hi a), u64 (lo a), .int .i64 n]] H = some (.agg [u64 (hi a), u64 (lo a), .int .i64 n], H) := by
  refine ev_own _ (PF t59) rfl (by decide) ?_
  simp only [f59, go_sem, Nat.reduceAdd, Nat.reduceMul, Nat.reduceSub, Nat.reduceBEq, Nat.reduceEqDiff, Nat.reduceLeDiff, Nat.reduceLT, Nat.reduceBneDiff, Int.reduceAdd, Int.cast_ofNat_Int, Int.toNat_natCast, Int.reduceLE, Int.reduceLT, Int.reduceToNat, Int.reduceEq, ↓reduceIte]
theorem ev_OneR (a : Adr) (n x : Int) : ev (PX hook) lim 35 [.agg [u64 (hi a), u64 (lo a), .int .i64 n, .int .i64 x]] H = some (.agg [u64 (hi a), u64 (lo a), .int .i64 n, .int .i64 x], H) := by
  refine ev_own _ (PF t35) rfl (by decide) ?_
  simp only [f35, go_sem, Nat.reduceAdd, Nat.reduceMul, Nat.reduceSub, Nat.reduceBEq, Nat.reduceEqDiff, Nat.reduceLeDiff, Nat.reduceLT, Nat.reduceBneDiff, Int.reduceAdd, Int.cast_ofNat_Int, Int.toNat_natCast, Int.reduceLE, Int.reduceLT, Int.reduceToNat, Int.reduceEq, ↓reduceIte, ev_OfP]
end Go.Proofs.Ytafonoekobkcdaa.C
