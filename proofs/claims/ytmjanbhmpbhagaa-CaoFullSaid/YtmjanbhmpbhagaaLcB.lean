/- THE DOCUMENT'S WORDS (bit by bit): what each function comes to. Conditions: none. -/
import Derived.Test.YtmjanbhmpbhagaaLcA
set_option linter.unusedVariables false
set_option linter.unusedSimpArgs false
namespace Go.AM
theorem bitA_and (a b : Adr) (k : Nat) : bitA (a &&& b) k = (bitA a k && bitA b k) := by simp [bitA]
theorem bitA_xor (a b : Adr) (k : Nat) : bitA (a ^^^ b) k = (bitA a k ^^ bitA b k) := by simp [bitA]
theorem bitA_not (a : Adr) (k : Nat) (h : k < 128) : bitA (~~~a) k = !bitA a k := by simp [bitA, h]
theorem bitA_zero (k : Nat) : bitA 0#128 k = false := by simp [bitA]
theorem bitA_ext {a b : Adr} (h : ∀ k, k < 128 → bitA a k = bitA b k) : a = b := BitVec.eq_of_getMsbD_eq fun i hi => h i hi
theorem differ_iff (a b m : Adr) : (differA a b m == 0#128) = true ↔ ∀ k, k < 128 → bitA m k = true → bitA a k = bitA b k := by
  rw [beq_iff_eq]
  unfold differA
  constructor
  · intro h k hk hm
    have := congrArg (fun x => bitA x k) h
    simp only [bitA_and, bitA_xor, bitA_zero, hm, Bool.and_true] at this
    revert this
    cases bitA a k <;> cases bitA b k <;> simp
  · intro h
    apply bitA_ext
    intro k hk
    rw [bitA_and, bitA_xor, bitA_zero]
    cases hm : bitA m k
    · simp
    · rw [h k hk hm]; simp
theorem meet_iff (x y : Wd) : x.meet y = true ↔ ∀ k, k < 128 → bitA x.m k = true → bitA y.m k = true → bitA x.v k = bitA y.v k := by
  unfold Wd.meet
  rw [differ_iff]
  simp only [bitA_and, Bool.and_eq_true]
  exact ⟨fun h k hk a b => h k hk ⟨a, b⟩, fun h k hk a => h k hk a.1 a.2⟩
theorem matches_iff (x : Wd) (a : Adr) : x.matches a = true ↔ ∀ k, k < 128 → bitA x.m k = true → bitA x.v k = bitA a k := differ_iff _ _ _
end Go.AM
namespace Go.Proofs.Ytmjanbhmpbhagaa.C
open Go.AM
variable {hook : Nat → Nat → List AV → Heap → Option (AV × Heap)} {lim : Nat} {H : Heap}
theorem ev_rMeet (x y : Wd) : ev (PX hook) lim 89 [.agg x.c, .agg y.c] H = some (.bool (x.meet y), H) := by
  refine ev_own _ (PF t89) rfl (by decide) ?_
  simp only [f89, go_sem, Nat.reduceAdd, Nat.reduceMul, Nat.reduceSub, Nat.reduceBEq, Nat.reduceEqDiff, Nat.reduceLeDiff, Nat.reduceLT, Nat.reduceBneDiff, Int.reduceAdd, Int.cast_ofNat_Int, Int.toNat_natCast, Int.reduceLE, Int.reduceLT, Int.reduceToNat, Int.reduceEq, ↓reduceIte, ev_Bits, Wd.c]
  refine GO_loop _ (fun m e H' => ∃ k : Nat, k + m = 128 ∧ (∀ j, j < k → bitA x.m j = true → bitA y.m j = true → bitA x.v j = bitA y.v j) ∧ e 5 = .sl (H.length + 2) 0 0 128 true ∧ e 6 = .sl (H.length + 3) 0 0 128 true ∧ e 7 = .sl (H.length + 4) 0 0 128 true ∧ e 8 = .sl (H.length + 5) 0 0 128 true ∧ e 9 = .int .i64 (k : Int) ∧ H' = H ++ [Blk.rw 0 4 x.c, .rw 0 4 y.c, .rw 0 1 (bl 128 (bitA x.v)), .rw 0 1 (bl 128 (bitA x.m)), .rw 0 1 (bl 128 (bitA y.v)), .rw 0 1 (bl 128 (bitA y.m))]) ?_ 128 _ _ ?_
  · rintro m e H' ⟨k, hk, hj, i5, i6, i7, i8, i9, rfl⟩
    cases m with
    | zero =>
      have hk' : k = 128 := by omega
      subst hk'
      have h : x.meet y = true := (meet_iff x y).2 hj
      simp only [f89b0, go_sem, Nat.reduceAdd, Nat.reduceMul, Nat.reduceSub, Nat.reduceBEq, Nat.reduceEqDiff, Nat.reduceLeDiff, Nat.reduceLT, Nat.reduceBneDiff, Int.reduceAdd, Int.cast_ofNat_Int, Int.toNat_natCast, Int.reduceLE, Int.reduceLT, Int.reduceToNat, Int.reduceEq, ↓reduceIte, i5, i6, i7, i8, i9, h]
    | succ m =>
      have d : decide ((k : Int) < 128) = true := by rw [decide_eq_true_eq]; omega
      have a1 := wrap_succ (k := k) (by omega)
      have a3 : (0 : Int) ≤ (k : Int) := by omega
      have a4 : (k : Int) < 128 := by omega
      have b1 := bl_get 128 (bitA x.v) k (by omega)
      have b2 := bl_get 128 (bitA x.m) k (by omega)
      have b3 := bl_get 128 (bitA y.v) k (by omega)
      have b4 := bl_get 128 (bitA y.m) k (by omega)
      have step : ∀ h : bitA x.m k = true → bitA y.m k = true → bitA x.v k = bitA y.v k, ∀ j, j < k + 1 → bitA x.m j = true → bitA y.m j = true → bitA x.v j = bitA y.v j := by
        intro h j hj' p q
        by_cases e : j = k
        · subst e; exact h p q
        · exact hj j (by omega) p q
      cases h1 : bitA x.m k
      · simp only [f89b0, go_sem, Nat.reduceAdd, Nat.reduceMul, Nat.reduceSub, Nat.reduceBEq, Nat.reduceEqDiff, Nat.reduceLeDiff, Nat.reduceLT, Nat.reduceBneDiff, Int.reduceAdd, Int.cast_ofNat_Int, Int.toNat_natCast, Int.reduceLE, Int.reduceLT, Int.reduceToNat, Int.reduceEq, ↓reduceIte, i5, i6, i7, i8, i9, d, a1, a3, a4, b1, b2, b3, b4, h1]
        exact ⟨m, by omega, k + 1, by omega, step (fun p => by rw [h1] at p; cases p), rfl⟩
      · cases h2 : bitA y.m k
        · simp only [f89b0, go_sem, Nat.reduceAdd, Nat.reduceMul, Nat.reduceSub, Nat.reduceBEq, Nat.reduceEqDiff, Nat.reduceLeDiff, Nat.reduceLT, Nat.reduceBneDiff, Int.reduceAdd, Int.cast_ofNat_Int, Int.toNat_natCast, Int.reduceLE, Int.reduceLT, Int.reduceToNat, Int.reduceEq, ↓reduceIte, i5, i6, i7, i8, i9, d, a1, a3, a4, b1, b2, b3, b4, h1, h2]
          exact ⟨m, by omega, k + 1, by omega, step (fun _ p => by rw [h2] at p; cases p), rfl⟩
        · by_cases hb : bitA x.v k = bitA y.v k
          · have hb' : (bitA x.v k == bitA y.v k) = true := by simp [hb]
            simp only [f89b0, go_sem, Nat.reduceAdd, Nat.reduceMul, Nat.reduceSub, Nat.reduceBEq, Nat.reduceEqDiff, Nat.reduceLeDiff, Nat.reduceLT, Nat.reduceBneDiff, Int.reduceAdd, Int.cast_ofNat_Int, Int.toNat_natCast, Int.reduceLE, Int.reduceLT, Int.reduceToNat, Int.reduceEq, ↓reduceIte, i5, i6, i7, i8, i9, d, a1, a3, a4, b1, b2, b3, b4, h1, h2, hb']
            exact ⟨m, by omega, k + 1, by omega, step (fun _ _ => hb), rfl⟩
          · have hb' : (bitA x.v k == bitA y.v k) = false := by simp [hb]
            have h : x.meet y = false := by
              rw [Bool.eq_false_iff]; intro h
              exact hb ((meet_iff x y).1 h k (by omega) h1 h2)
            simp only [f89b0, go_sem, Nat.reduceAdd, Nat.reduceMul, Nat.reduceSub, Nat.reduceBEq, Nat.reduceEqDiff, Nat.reduceLeDiff, Nat.reduceLT, Nat.reduceBneDiff, Int.reduceAdd, Int.cast_ofNat_Int, Int.toNat_natCast, Int.reduceLE, Int.reduceLT, Int.reduceToNat, Int.reduceEq, ↓reduceIte, i5, i6, i7, i8, i9, d, a1, a3, a4, b1, b2, b3, b4, h1, h2, hb', h]
  · exact ⟨0, by omega, fun j hj => by omega, by simp only [go_sem, Nat.reduceAdd, Nat.reduceMul, Nat.reduceSub, Nat.reduceBEq, Nat.reduceEqDiff, Nat.reduceLeDiff, Nat.reduceLT, Nat.reduceBneDiff, Int.reduceAdd, Int.cast_ofNat_Int, Int.toNat_natCast, Int.reduceLE, Int.reduceLT, Int.reduceToNat, Int.reduceEq, ↓reduceIte], by simp only [go_sem, Nat.reduceAdd, Nat.reduceMul, Nat.reduceSub, Nat.reduceBEq, Nat.reduceEqDiff, Nat.reduceLeDiff, Nat.reduceLT, Nat.reduceBneDiff, Int.reduceAdd, Int.cast_ofNat_Int, Int.toNat_natCast, Int.reduceLE, Int.reduceLT, Int.reduceToNat, Int.reduceEq, ↓reduceIte], by simp only [go_sem, Nat.reduceAdd, Nat.reduceMul, Nat.reduceSub, Nat.reduceBEq, Nat.reduceEqDiff, Nat.reduceLeDiff, Nat.reduceLT, Nat.reduceBneDiff, Int.reduceAdd, Int.cast_ofNat_Int, Int.toNat_natCast, Int.reduceLE, Int.reduceLT, Int.reduceToNat, Int.reduceEq, ↓reduceIte], by simp only [go_sem, Nat.reduceAdd, Nat.reduceMul, Nat.reduceSub, Nat.reduceBEq, Nat.reduceEqDiff, Nat.reduceLeDiff, Nat.reduceLT, Nat.reduceBneDiff, Int.reduceAdd, Int.cast_ofNat_Int, Int.toNat_natCast, Int.reduceLE, Int.reduceLT, Int.reduceToNat, Int.reduceEq, ↓reduceIte], by simp only [go_sem, Nat.reduceAdd, Nat.reduceMul, Nat.reduceSub, Nat.reduceBEq, Nat.reduceEqDiff, Nat.reduceLeDiff, Nat.reduceLT, Nat.reduceBneDiff, Int.reduceAdd, Int.cast_ofNat_Int, Int.toNat_natCast, Int.reduceLE, Int.reduceLT, Int.reduceToNat, Int.reduceEq, ↓reduceIte], rfl⟩
theorem ev_rAbove (x y : En) : ev (PX hook) lim 71 [.agg x.c, .agg y.c] H = some (.bool (x.above y), H) := by
  refine ev_own _ (PF t71) rfl (by decide) ?_
  have h := fun lim H => ev_rMeet (hook := hook) (lim := lim) (H := H) x.w y.w
  unfold En.above
  cases h1 : decide (y.n < x.n) <;> simp only [f71, go_sem, Nat.reduceAdd, Nat.reduceMul, Nat.reduceSub, Nat.reduceBEq, Nat.reduceEqDiff, Nat.reduceLeDiff, Nat.reduceLT, Nat.reduceBneDiff, Int.reduceAdd, Int.cast_ofNat_Int, Int.toNat_natCast, Int.reduceLE, Int.reduceLT, Int.reduceToNat, Int.reduceEq, ↓reduceIte, h, h1, gt_iff_lt]
end Go.Proofs.Ytmjanbhmpbhagaa.C
