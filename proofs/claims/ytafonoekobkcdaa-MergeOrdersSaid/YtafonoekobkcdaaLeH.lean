/- ROWS MERGED: what the document fixes of two halves; the law's functions MergeEnds, MergeOrders, MergeParts are true whatever comes in. Conditions: the slice shows the entries. -/
import Derived.Test.YtafonoekobkcdaaLeG
set_option linter.unusedVariables false
set_option linter.unusedSimpArgs false
namespace Go.AM
def h1A : Adr := mkA 720575940379279360#64 0#64
def h2A : Adr := mkA 756604737398243328#64 0#64
def q1 : Rt := ⟨cutA h1A (near 9), near 9, 1⟩
def q2 : Rt := ⟨cutA h2A (near 9), near 9, 1⟩
def h1E : En := En.ofP q1.a q1.n q1.x
def h2E : En := En.ofP q2.a q2.n q2.x
def hW : Wd := ((h1E.w.merge h2E.w).getD Wd.z)
def hE : En := ⟨hW, 9, 1⟩
theorem h_keep : keepP [q1, q2] = [q1, q2] := by
  have h : coversP q1.a q1.n q2.a q2.n = false := by decide
  simp [keepP, keepS, cutN, h]
theorem h_sort : eSort [h1E, h2E] = [h1E, h2E] := by
  refine sort_of_sorted ?_
  unfold Sorted
  simp only [List.pairwise_cons, List.mem_cons, List.not_mem_nil, or_false, forall_eq, List.Pairwise.nil, and_true, false_imp_iff, implies_true]
  decide
theorem h_two : twoW [h1E, h2E] = some (0, 1, hW) := by decide
theorem h_step : mstep [h1E, h2E] = some [hE] := by
  unfold mstep
  rw [h_two]
  have : restN 0 1 0 [h1E, h2E] = [] := by simp [restN]
  simp only [this, List.nil_append, Option.some.injEq]
  exact sort_of_sorted (by unfold Sorted; simp) 
theorem h_merge : mergeW [h1E, h2E] = [hE] := by
  have e : mergeW [h1E, h2E] = mergeN 2 (eSort [h1E, h2E]) := rfl
  rw [e, h_sort, mergeN, h_step]
  exact mergeN_stop (by rfl) 1
theorem h_rows : rowE [q1, q2] = [h1E, h2E] := rfl
theorem h_free : onesA (~~~hW.m) = 120 := by decide
theorem h_build2 : buildW [q1, q2] 2 = [hE] := by
  unfold buildW
  rw [if_neg (by omega), if_pos rfl, h_keep, h_rows, h_merge]
theorem h_build0 : (buildW [q1, q2] 0).length = 2 := by
  unfold buildW
  rw [if_neg (by omega), if_neg (by omega), if_pos rfl, h_rows, h_sort]; rfl
theorem h_simple : simpleP [hE] = true := rfl
end Go.AM
namespace Go.Proofs.Ytafonoekobkcdaa.C
open Go.AM
variable {hook : Nat → Nat → List AV → Heap → Option (AV × Heap)} {lim : Nat} {H : Heap}
theorem ev_awake10 : ev (PX hook) lim 8 [] H = some (.bool true, H) := by
  refine ev_own _ (PF t8) rfl (by decide) ?_
  have a1 : hi h1A = 720575940379279360#64 := hi_mk _ _
  have a2 : lo h1A = 0#64 := lo_mk _ _
  have b1 : hi h2A = 756604737398243328#64 := hi_mk _ _
  have b2 : lo h2A = 0#64 := lo_mk _ _
  have m1 := fun lim H => ev_Make (hook := hook) (lim := lim) (H := H) h1A 9
  have m2 := fun lim H => ev_Make (hook := hook) (lim := lim) (H := H) h2A 9
  simp only [a1, a2] at m1
  simp only [b1, b2] at m2
  have l1 : AV.int .u64 720575940379279360 = u64 720575940379279360#64 := rfl
  have l2 : AV.int .u64 756604737398243328 = u64 756604737398243328#64 := rfl
  have hc1 : [u64 (hi (cutA h1A (near 9))), u64 (lo (cutA h1A (near 9))), .int .i64 ((near 9 : Nat) : Int), .int .i64 1] = q1.c := rfl
  have hc2 : [u64 (hi (cutA h2A (near 9))), u64 (lo (cutA h2A (near 9))), .int .i64 ((near 9 : Nat) : Int), .int .i64 1] = q2.c := rfl
  have hfill : fillV [u64 0#64, u64 0#64, .int .i64 0, .int .i64 0, u64 0#64, u64 0#64, .int .i64 0, .int .i64 0] [(0, 4, .agg q1.c), (4, 4, .agg q2.c)] = some (cat Rt.c [q1, q2]) := by simp only [go_sem, Nat.reduceAdd, Nat.reduceMul, Nat.reduceSub, Nat.reduceBEq, Nat.reduceEqDiff, Nat.reduceLeDiff, Nat.reduceLT, Nat.reduceBneDiff, Int.reduceAdd, Int.cast_ofNat_Int, Int.toNat_natCast, Int.reduceLE, Int.reduceLT, Int.reduceToNat, Int.reduceEq, ↓reduceIte, Rt.c, cat]
  have hlit : Lst Rt.c 4 (H ++ [.rw 0 4 (cat Rt.c [q1, q2])]) (.sl H.length 0 0 2 true) [q1, q2] := Lst.lit Rt.len H [] [q1, q2] true
  obtain ⟨v1, L1, h1, g1⟩ := ev_Build (hook := hook) (lim := H.length) _ [q1, q2] 2 hlit (by simp)
  rw [h_build2] at g1
  have g1 := g1.lst En.len
  obtain ⟨id, ver, q, E⟩ := g1.at (by omega) En.len (show [hE][0]? = some hE from rfl)
  obtain ⟨v2, L2, h2, g2⟩ := ev_Build (hook := hook) (lim := H.length) _ [q1, q2] 0 (hlit.more L1) (by simp)
  have n1 := g1.len'
  have n2 := (g2.lst En.len).len'
  rw [h_build0] at n2
  have hs := ev_Simple (hook := hook) (lim := H.length) v1 [hE] (g1.more L2) (by simp)
  rw [h_simple] at hs
  have hf := fun lim H => ev_Free' (hook := hook) (lim := lim) (H := H) hE.w
  have e120 : onesA (~~~hE.w.m) = 120 := h_free
  rw [e120] at hf
  have z0 : ((0 : Nat) : Int) = 0 := rfl
  have c0 := E.adr'
  have c1 := E.cel'
  have c2 := E.one' 4 (by omega)
  have c3 := E.part0' 4 (by omega)
  rw [z0] at c0
  have hn9 : hE.c[4]? = some (.int .i64 9) := rfl
  have hw4 : List.take 4 hE.c = hE.w.c := rfl
  rw [hn9] at c2
  rw [hw4] at c3
  have d1 : (((1 : Nat) : Int) == 1) = true := rfl
  have d1' : ((1 : Int) == 1) = true := rfl
  have d9 : ((9 : Int) == 9) = true := rfl
  have d120 : ((120 : Int) == 120) = true := rfl
  have d2 : ((2 : Int) == 2) = true := rfl
  have dm1 : decide ((0 : Int) ≤ 2) = true := rfl
  have dm2 : decide ((2 : Int) ≤ 2) = true := rfl
  have z1 : (([hE].length : Nat) : Int) = 1 := rfl
  have z2 : ((2 : Nat) : Int) = 2 := rfl
  rw [z1] at n1
  rw [z2] at n2
  simp only [List.append_assoc, List.cons_append, List.nil_append] at h1 h2 n1 n2 hs c0 c1 c2 c3
  simp only [f8, go_sem, Nat.reduceAdd, Nat.reduceMul, Nat.reduceSub, Nat.reduceBEq, Nat.reduceEqDiff, Nat.reduceLeDiff, Nat.reduceLT, Nat.reduceBneDiff, Int.reduceAdd, Int.cast_ofNat_Int, Int.toNat_natCast, Int.reduceLE, Int.reduceLT, Int.reduceToNat, Int.reduceEq, ↓reduceIte, l1, l2, m1, m2, hc1, hc2, hfill, h1, n1, d1', c0, c1, c2, d9, c3, hf, d120, h2, n2, d2, hs, ev_Mode, dm1, dm2]
theorem mergeEnds_true (v : AV) (l : List En) (hv : Lst En.c 6 H v l) : ev (PX hook) lim 5 [v] H = some (.bool true, H) := by
  refine ev_own _ (PF t5) rfl (by decide) ?_
  have hlen := hv.len'
  by_cases hn : l.length ≤ 12
  · have d : decide ((12 : Int) < (l.length : Int)) = false := by rw [decide_eq_false_iff_not]; omega
    have hml := mergeW_len l
    obtain ⟨v1, L1, h1, g1⟩ := ev_MergeP (hook := hook) (lim := H.length) v l hv hn
    have g1 := g1.lst En.len
    obtain ⟨v2, L2, h2, g2⟩ := ev_MergeP (hook := hook) (lim := H.length) v1 _ g1 (by omega)
    rw [mergeW_ends] at g2
    have g2 := g2.lst En.len
    obtain ⟨v3, L3, h3, g3⟩ := ev_law05Of (hook := hook) (lim := H.length) v1 _ (g1.more L2) (by omega)
    have hs := ev_same10 (hook := hook) (lim := H.length) v2 v3 _ _ (g2.more L3) g3.lst (by omega)
    have hss : decide (mergeW l = mergeW l) = true := by simp
    rw [hss] at hs
    simp only [List.append_assoc] at h2 h3 hs
    simp only [f5, go_sem, Nat.reduceAdd, Nat.reduceMul, Nat.reduceSub, Nat.reduceBEq, Nat.reduceEqDiff, Nat.reduceLeDiff, Nat.reduceLT, Nat.reduceBneDiff, Int.reduceAdd, Int.cast_ofNat_Int, Int.toNat_natCast, Int.reduceLE, Int.reduceLT, Int.reduceToNat, Int.reduceEq, ↓reduceIte, hlen, gt_iff_lt, d, h1, h2, h3, hs, ev_awake10]
  · have d : decide ((12 : Int) < (l.length : Int)) = true := by rw [decide_eq_true_eq]; omega
    simp only [f5, go_sem, Nat.reduceAdd, Nat.reduceMul, Nat.reduceSub, Nat.reduceBEq, Nat.reduceEqDiff, Nat.reduceLeDiff, Nat.reduceLT, Nat.reduceBneDiff, Int.reduceAdd, Int.cast_ofNat_Int, Int.toNat_natCast, Int.reduceLE, Int.reduceLT, Int.reduceToNat, Int.reduceEq, ↓reduceIte, hlen, gt_iff_lt, d, ev_awake10]
end Go.Proofs.Ytafonoekobkcdaa.C
