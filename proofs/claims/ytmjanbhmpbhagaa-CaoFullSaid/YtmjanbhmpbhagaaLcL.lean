/- THE ORDER OF CHAINS, the program's: what each function comes to. Conditions: the slices show what is told. -/
import Derived.Test.YtmjanbhmpbhagaaLcK
set_option linter.unusedVariables false
set_option linter.unusedSimpArgs false
namespace Go.Proofs.Ytmjanbhmpbhagaa.C
open Go.AM
variable {hook : Nat → Nat → List AV → Heap → Option (AV × Heap)} {lim : Nat} {H : Heap}
theorem ev_lowest (v : AV) (l : List Sl) (k : Nat) (x : En) (hv : Lst Sl.c 7 H v l) (hl : l.length < 1000000) (hk : k ≤ l.length) : ev (PX hook) lim 65 [v, .int .i64 (k : Int), .agg x.c] H = some (.int .i64 (lowN l k x : Int), H) := by
  refine ev_own _ (PF t65) rfl (by decide) ?_
  have hlen := hv.len
  simp only [f65, go_sem, Nat.reduceAdd, Nat.reduceMul, Nat.reduceSub, Nat.reduceBEq, Nat.reduceEqDiff, Nat.reduceLeDiff, Nat.reduceLT, Nat.reduceBneDiff, Int.reduceAdd, Int.cast_ofNat_Int, Int.toNat_natCast, Int.reduceLE, Int.reduceLT, Int.reduceToNat, Int.reduceEq, ↓reduceIte]
  refine GO_loop _ (fun m e H' => ∃ i : Nat, i + m = l.length ∧ lowN l k x = firstN (fun s => s.ok && x.above s.e) l (l.length - i) i ∧ e 0 = v ∧ e 5 = .ptr H.length 0 0 ∧ e 7 = .int .i64 (i : Int) ∧ H' = H ++ [Blk.rw 0 6 x.c]) ?_ (l.length - k) _ _ ?_
  · rintro m e H' ⟨i, hi, hf, i0, i5, i7, rfl⟩
    cases m with
    | zero =>
      have hi' : i = l.length := by omega
      subst hi'
      rw [Nat.sub_self, firstN] at hf
      simp only [f65b0, go_sem, Nat.reduceAdd, Nat.reduceMul, Nat.reduceSub, Nat.reduceBEq, Nat.reduceEqDiff, Nat.reduceLeDiff, Nat.reduceLT, Nat.reduceBneDiff, Int.reduceAdd, Int.cast_ofNat_Int, Int.toNat_natCast, Int.reduceLE, Int.reduceLT, Int.reduceToNat, Int.reduceEq, ↓reduceIte, i0, i5, i7, hlen, lt_false, hf]
    | succ m =>
      obtain ⟨s, hs, _⟩ := get_of_lt (show i < l.length by omega)
      obtain ⟨id, ver, q, E⟩ := hv.at (by omega) Sl.len hs
      have d := lt_true (show i < l.length by omega)
      have a1 := wrap_succ (show i < 1000000 by omega)
      rw [show l.length - i = (l.length - (i + 1)) + 1 by omega, firstN, hs] at hf
      simp only at hf
      cases b1 : s.ok
      · rw [b1, Bool.false_and, if_neg (by simp)] at hf
        simp only [f65b0, go_sem, Nat.reduceAdd, Nat.reduceMul, Nat.reduceSub, Nat.reduceBEq, Nat.reduceEqDiff, Nat.reduceLeDiff, Nat.reduceLT, Nat.reduceBneDiff, Int.reduceAdd, Int.cast_ofNat_Int, Int.toNat_natCast, Int.reduceLE, Int.reduceLT, Int.reduceToNat, Int.reduceEq, ↓reduceIte, i0, i5, i7, hlen, d, a1, E.adr, E.adr', E.cel, E.cel', E.all, E.all', E.part, E.part', E.part0, E.part0', E.one, E.one', E.one0, E.one0', b1]
        exact ⟨m, by omega, i + 1, by omega, hf, rfl⟩
      · cases b2 : x.above s.e
        · rw [b1, b2, if_neg (by simp)] at hf
          simp only [f65b0, go_sem, Nat.reduceAdd, Nat.reduceMul, Nat.reduceSub, Nat.reduceBEq, Nat.reduceEqDiff, Nat.reduceLeDiff, Nat.reduceLT, Nat.reduceBneDiff, Int.reduceAdd, Int.cast_ofNat_Int, Int.toNat_natCast, Int.reduceLE, Int.reduceLT, Int.reduceToNat, Int.reduceEq, ↓reduceIte, i0, i5, i7, hlen, d, a1, E.adr, E.adr', E.cel, E.cel', E.all, E.all', E.part, E.part', E.part0, E.part0', E.one, E.one', E.one0, E.one0', b1, ev_EAbove, b2]
          exact ⟨m, by omega, i + 1, by omega, hf, rfl⟩
        · rw [b1, b2, if_pos (by simp)] at hf
          simp only [f65b0, go_sem, Nat.reduceAdd, Nat.reduceMul, Nat.reduceSub, Nat.reduceBEq, Nat.reduceEqDiff, Nat.reduceLeDiff, Nat.reduceLT, Nat.reduceBneDiff, Int.reduceAdd, Int.cast_ofNat_Int, Int.toNat_natCast, Int.reduceLE, Int.reduceLT, Int.reduceToNat, Int.reduceEq, ↓reduceIte, i0, i5, i7, hlen, d, a1, E.adr, E.adr', E.cel, E.cel', E.all, E.all', E.part, E.part', E.part0, E.part0', E.one, E.one', E.one0, E.one0', b1, ev_EAbove, b2, hf]
  · exact ⟨k, by omega, rfl, by simp only [go_sem, Nat.reduceAdd, Nat.reduceMul, Nat.reduceSub, Nat.reduceBEq, Nat.reduceEqDiff, Nat.reduceLeDiff, Nat.reduceLT, Nat.reduceBneDiff, Int.reduceAdd, Int.cast_ofNat_Int, Int.toNat_natCast, Int.reduceLE, Int.reduceLT, Int.reduceToNat, Int.reduceEq, ↓reduceIte], by simp only [go_sem, Nat.reduceAdd, Nat.reduceMul, Nat.reduceSub, Nat.reduceBEq, Nat.reduceEqDiff, Nat.reduceLeDiff, Nat.reduceLT, Nat.reduceBneDiff, Int.reduceAdd, Int.cast_ofNat_Int, Int.toNat_natCast, Int.reduceLE, Int.reduceLT, Int.reduceToNat, Int.reduceEq, ↓reduceIte], by simp only [go_sem, Nat.reduceAdd, Nat.reduceMul, Nat.reduceSub, Nat.reduceBEq, Nat.reduceEqDiff, Nat.reduceLeDiff, Nat.reduceLT, Nat.reduceBneDiff, Int.reduceAdd, Int.cast_ofNat_Int, Int.toNat_natCast, Int.reduceLE, Int.reduceLT, Int.reduceToNat, Int.reduceEq, ↓reduceIte], rfl⟩
theorem ev_highest (v : AV) (l : List Sl) (k : Nat) (x : En) (hv : Lst Sl.c 7 H v l) (hl : l.length < 1000000) (hk : k ≤ l.length) : ev (PX hook) lim 67 [v, .int .i64 (k : Int), .agg x.c] H = some (.int .i64 ((hiN l k x : Int) - 1), H) := by
  refine ev_own _ (PF t67) rfl (by decide) ?_
  have a0 : IntKind.wrap .i64 ((k : Int) - 1) = (k : Int) - 1 := by rw [wrap_i64] <;> omega
  simp only [f67, go_sem, Nat.reduceAdd, Nat.reduceMul, Nat.reduceSub, Nat.reduceBEq, Nat.reduceEqDiff, Nat.reduceLeDiff, Nat.reduceLT, Nat.reduceBneDiff, Int.reduceAdd, Int.cast_ofNat_Int, Int.toNat_natCast, Int.reduceLE, Int.reduceLT, Int.reduceToNat, Int.reduceEq, ↓reduceIte, a0]
  refine GO_loop _ (fun m e H' => ∃ i : Nat, i = m ∧ i ≤ k ∧ hiN l k x = lastN (fun s => s.ok && s.e.above x) l i ∧ e 0 = v ∧ e 5 = .ptr H.length 0 0 ∧ e 7 = .int .i64 ((i : Int) - 1) ∧ H' = H ++ [Blk.rw 0 6 x.c]) ?_ k _ _ ?_
  · rintro m e H' ⟨i, rfl, hik, hf, i0, i5, i7, rfl⟩
    cases i with
    | zero =>
      have d : decide ((0 : Int) ≤ -1) = false := by decide
      have e1 : ((0 : Nat) : Int) - 1 = -1 := rfl
      rw [lastN] at hf
      rw [e1] at i7
      rw [hf, e1]
      simp only [f67b0, go_sem, Nat.reduceAdd, Nat.reduceMul, Nat.reduceSub, Nat.reduceBEq, Nat.reduceEqDiff, Nat.reduceLeDiff, Nat.reduceLT, Nat.reduceBneDiff, Int.reduceAdd, Int.cast_ofNat_Int, Int.toNat_natCast, Int.reduceLE, Int.reduceLT, Int.reduceToNat, Int.reduceEq, ↓reduceIte, i0, i5, i7, ge_iff_le, d]
    | succ i =>
      obtain ⟨s, hs, _⟩ := get_of_lt (show i < l.length by omega)
      obtain ⟨id, ver, q, E⟩ := hv.at (by omega) Sl.len hs
      have e1 : ((i + 1 : Nat) : Int) - 1 = (i : Int) := by omega
      rw [e1] at i7
      have d : decide ((0 : Int) ≤ (i : Int)) = true := by rw [decide_eq_true_eq]; omega
      have a1 : IntKind.wrap .i64 ((i : Int) - 1) = (i : Int) - 1 := by rw [wrap_i64] <;> omega
      rw [lastN, hs] at hf
      simp only at hf
      cases b1 : s.ok
      · rw [b1, Bool.false_and, if_neg (by simp)] at hf
        simp only [f67b0, go_sem, Nat.reduceAdd, Nat.reduceMul, Nat.reduceSub, Nat.reduceBEq, Nat.reduceEqDiff, Nat.reduceLeDiff, Nat.reduceLT, Nat.reduceBneDiff, Int.reduceAdd, Int.cast_ofNat_Int, Int.toNat_natCast, Int.reduceLE, Int.reduceLT, Int.reduceToNat, Int.reduceEq, ↓reduceIte, i0, i5, i7, ge_iff_le, d, a1, E.adr, E.adr', E.cel, E.cel', E.all, E.all', E.part, E.part', E.part0, E.part0', E.one, E.one', E.one0, E.one0', b1]
        exact ⟨i, by omega, i, rfl, by omega, hf, rfl⟩
      · cases b2 : s.e.above x
        · rw [b1, b2, if_neg (by simp)] at hf
          simp only [f67b0, go_sem, Nat.reduceAdd, Nat.reduceMul, Nat.reduceSub, Nat.reduceBEq, Nat.reduceEqDiff, Nat.reduceLeDiff, Nat.reduceLT, Nat.reduceBneDiff, Int.reduceAdd, Int.cast_ofNat_Int, Int.toNat_natCast, Int.reduceLE, Int.reduceLT, Int.reduceToNat, Int.reduceEq, ↓reduceIte, i0, i5, i7, ge_iff_le, d, a1, E.adr, E.adr', E.cel, E.cel', E.all, E.all', E.part, E.part', E.part0, E.part0', E.one, E.one', E.one0, E.one0', b1, ev_EAbove, b2]
          exact ⟨i, by omega, i, rfl, by omega, hf, rfl⟩
        · rw [b1, b2, if_pos (by simp)] at hf
          rw [hf, e1]
          simp only [f67b0, go_sem, Nat.reduceAdd, Nat.reduceMul, Nat.reduceSub, Nat.reduceBEq, Nat.reduceEqDiff, Nat.reduceLeDiff, Nat.reduceLT, Nat.reduceBneDiff, Int.reduceAdd, Int.cast_ofNat_Int, Int.toNat_natCast, Int.reduceLE, Int.reduceLT, Int.reduceToNat, Int.reduceEq, ↓reduceIte, i0, i5, i7, ge_iff_le, d, a1, E.adr, E.adr', E.cel, E.cel', E.all, E.all', E.part, E.part', E.part0, E.part0', E.one, E.one', E.one0, E.one0', b1, ev_EAbove, b2]
  · exact ⟨k, rfl, Nat.le_refl _, rfl, by simp only [go_sem, Nat.reduceAdd, Nat.reduceMul, Nat.reduceSub, Nat.reduceBEq, Nat.reduceEqDiff, Nat.reduceLeDiff, Nat.reduceLT, Nat.reduceBneDiff, Int.reduceAdd, Int.cast_ofNat_Int, Int.toNat_natCast, Int.reduceLE, Int.reduceLT, Int.reduceToNat, Int.reduceEq, ↓reduceIte], by simp only [go_sem, Nat.reduceAdd, Nat.reduceMul, Nat.reduceSub, Nat.reduceBEq, Nat.reduceEqDiff, Nat.reduceLeDiff, Nat.reduceLT, Nat.reduceBneDiff, Int.reduceAdd, Int.cast_ofNat_Int, Int.toNat_natCast, Int.reduceLE, Int.reduceLT, Int.reduceToNat, Int.reduceEq, ↓reduceIte], by simp only [go_sem, Nat.reduceAdd, Nat.reduceMul, Nat.reduceSub, Nat.reduceBEq, Nat.reduceEqDiff, Nat.reduceLeDiff, Nat.reduceLT, Nat.reduceBneDiff, Int.reduceAdd, Int.cast_ofNat_Int, Int.toNat_natCast, Int.reduceLE, Int.reduceLT, Int.reduceToNat, Int.reduceEq, ↓reduceIte], rfl⟩
theorem ev_caoGap (v : AV) (l : List Sl) (x : En) (hv : Lst Sl.c 7 H v l) (hl : l.length < 1000000) : ev (PX hook) lim 33 [v, .agg x.c] H = some (.tup [.int .i64 (hiN l l.length x : Int), .int .i64 (lowN l 0 x : Int)], H) := by
  refine ev_own _ (PF t33) rfl (by decide) ?_
  have hv1 := hv.more [Blk.rw 0 6 x.c]
  have hlen := hv.len
  have h1 := ev_highest (hook := hook) (lim := H.length) v l l.length x hv1 hl (Nat.le_refl _)
  have h2 := ev_lowest (hook := hook) (lim := H.length) v l 0 x hv1 hl (Nat.zero_le _)
  have a1 : IntKind.wrap .i64 (((hiN l l.length x : Int) - 1) + 1) = (hiN l l.length x : Int) := by
    have : hiN l l.length x ≤ l.length := lastN_le _ _ _
    rw [wrap_i64] <;> omega
  rw [show ((0 : Nat) : Int) = 0 from rfl] at h2
  simp only [f33, go_sem, Nat.reduceAdd, Nat.reduceMul, Nat.reduceSub, Nat.reduceBEq, Nat.reduceEqDiff, Nat.reduceLeDiff, Nat.reduceLT, Nat.reduceBneDiff, Int.reduceAdd, Int.cast_ofNat_Int, Int.toNat_natCast, Int.reduceLE, Int.reduceLT, Int.reduceToNat, Int.reduceEq, ↓reduceIte, hlen, h1, h2, a1]
theorem ev_empty (v : AV) (l : List Sl) (i j : Nat) (b : Bool) (hv : Lst Sl.c 7 H v l) (hl : l.length < 1000000) (hj : j ≤ l.length) (hi : i < 1000000) : ev (PX hook) lim 61 [v, .int .i64 (i : Int), .int .i64 (j : Int), .bool b] H = some (.int .i64 (optI (if b then (frees l i j).getLast? else (frees l i j).head?)), H) := by
  refine ev_own _ (PF t61) rfl (by decide) ?_
  simp only [f61, go_sem, Nat.reduceAdd, Nat.reduceMul, Nat.reduceSub, Nat.reduceBEq, Nat.reduceEqDiff, Nat.reduceLeDiff, Nat.reduceLT, Nat.reduceBneDiff, Int.reduceAdd, Int.cast_ofNat_Int, Int.toNat_natCast, Int.reduceLE, Int.reduceLT, Int.reduceToNat, Int.reduceEq, ↓reduceIte]
  by_cases hij : i < j
  · refine GO_loop _ (fun m e H' => ∃ k : Nat, k + m = j ∧ i ≤ k ∧ e 9 = .int .i64 (optI (if b then (frees l i k).getLast? else (frees l i k).head?)) ∧ e 0 = v ∧ e 2 = .int .i64 (j : Int) ∧ e 3 = .bool b ∧ e 10 = .int .i64 (k : Int) ∧ H' = H) ?_ (j - i) _ _ ?_
    · rintro m e H' ⟨k, hk, hik, i9, i0, i2, i3, i10, rfl⟩
      cases m with
      | zero =>
        have hk' : k = j := by omega
        subst hk'
        simp only [f61b0, go_sem, Nat.reduceAdd, Nat.reduceMul, Nat.reduceSub, Nat.reduceBEq, Nat.reduceEqDiff, Nat.reduceLeDiff, Nat.reduceLT, Nat.reduceBneDiff, Int.reduceAdd, Int.cast_ofNat_Int, Int.toNat_natCast, Int.reduceLE, Int.reduceLT, Int.reduceToNat, Int.reduceEq, ↓reduceIte, i0, i2, i3, i9, i10, lt_false]
      | succ m =>
        obtain ⟨s, hs, _⟩ := get_of_lt (show k < l.length by omega)
        obtain ⟨id, ver, q, E⟩ := hv.at (by omega) Sl.len hs
        have d := lt_true (show k < j by omega)
        have a1 := wrap_succ (show k < 1000000 by omega)
        have hf := frees_snoc hik hs
        cases b1 : s.ok
        · rw [b1, if_neg (by simp)] at hf
          cases b
          · simp only [Bool.false_eq_true, if_false] at i9
            cases hh : (frees l i k).head? with
            | none =>
              rw [hh] at i9
              have hnil : frees l i k = [] := List.head?_eq_none_iff.1 hh
              have d2 : decide ((-1 : Int) < 0) = true := rfl
              simp only [optI] at i9
              simp only [f61b0, go_sem, Nat.reduceAdd, Nat.reduceMul, Nat.reduceSub, Nat.reduceBEq, Nat.reduceEqDiff, Nat.reduceLeDiff, Nat.reduceLT, Nat.reduceBneDiff, Int.reduceAdd, Int.cast_ofNat_Int, Int.toNat_natCast, Int.reduceLE, Int.reduceLT, Int.reduceToNat, Int.reduceEq, ↓reduceIte, i0, i2, i3, i9, i10, d, a1, E.adr, E.adr', E.cel, E.cel', E.all, E.all', E.part, E.part', E.part0, E.part0', E.one, E.one', E.one0, E.one0', b1, d2]
              refine ⟨m, by omega, k + 1, by omega, by omega, ?_, rfl⟩
              rw [hf, hnil]; simp [optI]
            | some k0 =>
              rw [hh] at i9
              have d2 : decide ((k0 : Int) < 0) = false := by rw [decide_eq_false_iff_not]; omega
              simp only [optI] at i9
              simp only [f61b0, go_sem, Nat.reduceAdd, Nat.reduceMul, Nat.reduceSub, Nat.reduceBEq, Nat.reduceEqDiff, Nat.reduceLeDiff, Nat.reduceLT, Nat.reduceBneDiff, Int.reduceAdd, Int.cast_ofNat_Int, Int.toNat_natCast, Int.reduceLE, Int.reduceLT, Int.reduceToNat, Int.reduceEq, ↓reduceIte, i0, i2, i3, i9, i10, d, a1, E.adr, E.adr', E.cel, E.cel', E.all, E.all', E.part, E.part', E.part0, E.part0', E.one, E.one', E.one0, E.one0', b1, d2]
              refine ⟨m, by omega, k + 1, by omega, by omega, ?_, rfl⟩
              rw [hf]
              simp [List.head?_append, hh, optI]
          · simp only [if_true] at i9
            cases d2 : decide (optI ((frees l i k).getLast?) < 0)
            · simp only [f61b0, go_sem, Nat.reduceAdd, Nat.reduceMul, Nat.reduceSub, Nat.reduceBEq, Nat.reduceEqDiff, Nat.reduceLeDiff, Nat.reduceLT, Nat.reduceBneDiff, Int.reduceAdd, Int.cast_ofNat_Int, Int.toNat_natCast, Int.reduceLE, Int.reduceLT, Int.reduceToNat, Int.reduceEq, ↓reduceIte, i0, i2, i3, i9, i10, d, a1, E.adr, E.adr', E.cel, E.cel', E.all, E.all', E.part, E.part', E.part0, E.part0', E.one, E.one', E.one0, E.one0', b1, d2]
              refine ⟨m, by omega, k + 1, by omega, by omega, ?_, rfl⟩
              rw [hf]; simp [optI]
            · simp only [f61b0, go_sem, Nat.reduceAdd, Nat.reduceMul, Nat.reduceSub, Nat.reduceBEq, Nat.reduceEqDiff, Nat.reduceLeDiff, Nat.reduceLT, Nat.reduceBneDiff, Int.reduceAdd, Int.cast_ofNat_Int, Int.toNat_natCast, Int.reduceLE, Int.reduceLT, Int.reduceToNat, Int.reduceEq, ↓reduceIte, i0, i2, i3, i9, i10, d, a1, E.adr, E.adr', E.cel, E.cel', E.all, E.all', E.part, E.part', E.part0, E.part0', E.one, E.one', E.one0, E.one0', b1, d2]
              refine ⟨m, by omega, k + 1, by omega, by omega, ?_, rfl⟩
              rw [hf]; simp [optI]
        · rw [b1, if_pos rfl, List.append_nil] at hf
          rw [← hf] at i9
          simp only [f61b0, go_sem, Nat.reduceAdd, Nat.reduceMul, Nat.reduceSub, Nat.reduceBEq, Nat.reduceEqDiff, Nat.reduceLeDiff, Nat.reduceLT, Nat.reduceBneDiff, Int.reduceAdd, Int.cast_ofNat_Int, Int.toNat_natCast, Int.reduceLE, Int.reduceLT, Int.reduceToNat, Int.reduceEq, ↓reduceIte, i0, i2, i3, i9, i10, d, a1, E.adr, E.adr', E.cel, E.cel', E.all, E.all', E.part, E.part', E.part0, E.part0', E.one, E.one', E.one0, E.one0', b1]
          exact ⟨m, by omega, k + 1, by omega, by omega, rfl, rfl⟩
    · refine ⟨i, by omega, Nat.le_refl _, ?_, by simp only [go_sem, Nat.reduceAdd, Nat.reduceMul, Nat.reduceSub, Nat.reduceBEq, Nat.reduceEqDiff, Nat.reduceLeDiff, Nat.reduceLT, Nat.reduceBneDiff, Int.reduceAdd, Int.cast_ofNat_Int, Int.toNat_natCast, Int.reduceLE, Int.reduceLT, Int.reduceToNat, Int.reduceEq, ↓reduceIte], by simp only [go_sem, Nat.reduceAdd, Nat.reduceMul, Nat.reduceSub, Nat.reduceBEq, Nat.reduceEqDiff, Nat.reduceLeDiff, Nat.reduceLT, Nat.reduceBneDiff, Int.reduceAdd, Int.cast_ofNat_Int, Int.toNat_natCast, Int.reduceLE, Int.reduceLT, Int.reduceToNat, Int.reduceEq, ↓reduceIte], by simp only [go_sem, Nat.reduceAdd, Nat.reduceMul, Nat.reduceSub, Nat.reduceBEq, Nat.reduceEqDiff, Nat.reduceLeDiff, Nat.reduceLT, Nat.reduceBneDiff, Int.reduceAdd, Int.cast_ofNat_Int, Int.toNat_natCast, Int.reduceLE, Int.reduceLT, Int.reduceToNat, Int.reduceEq, ↓reduceIte], by simp only [go_sem, Nat.reduceAdd, Nat.reduceMul, Nat.reduceSub, Nat.reduceBEq, Nat.reduceEqDiff, Nat.reduceLeDiff, Nat.reduceLT, Nat.reduceBneDiff, Int.reduceAdd, Int.cast_ofNat_Int, Int.toNat_natCast, Int.reduceLE, Int.reduceLT, Int.reduceToNat, Int.reduceEq, ↓reduceIte], rfl⟩
      simp only [go_sem, Nat.reduceAdd, Nat.reduceMul, Nat.reduceSub, Nat.reduceBEq, Nat.reduceEqDiff, Nat.reduceLeDiff, Nat.reduceLT, Nat.reduceBneDiff, Int.reduceAdd, Int.cast_ofNat_Int, Int.toNat_natCast, Int.reduceLE, Int.reduceLT, Int.reduceToNat, Int.reduceEq, ↓reduceIte, frees_self]
      cases b <;> rfl
  · have d : decide ((i : Int) < (j : Int)) = false := by rw [decide_eq_false_iff_not]; omega
    rw [GO_unroll]
    have hn : frees l i j = [] := frees_none l (by omega)
    rw [hn]
    simp only [f61b0, go_sem, Nat.reduceAdd, Nat.reduceMul, Nat.reduceSub, Nat.reduceBEq, Nat.reduceEqDiff, Nat.reduceLeDiff, Nat.reduceLT, Nat.reduceBneDiff, Int.reduceAdd, Int.cast_ofNat_Int, Int.toNat_natCast, Int.reduceLE, Int.reduceLT, Int.reduceToNat, Int.reduceEq, ↓reduceIte, d]
    cases b <;> rfl
end Go.Proofs.Ytmjanbhmpbhagaa.C
