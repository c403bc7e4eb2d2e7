/- PLANS: Insert and One, the program's and the document's; the law's functions PlanInserts and PlanOne are true whatever comes in. Conditions: the slice shows the slots. -/
import Derived.Test.YtmjanbhmpbhagaaLcX
import Derived.Test.YtmjanbhmpbhagaaLcI
set_option linter.unusedVariables false
set_option linter.unusedSimpArgs false
namespace Go.AM
def insW (o : Int) (l : List Sl) (x : En) : List Wr × Int := if o = 0 then ploW l x else if o = 1 then caoW l x else ([], 1)
def stepW (o : Int) (l : List Sl) (s : Stp) : List Wr × Int :=
  if s.k = 0 then insW o l s.e else if (s.k = 1 ∨ s.k = 2) ∧ (((o == 0) || (o == 1)) && s.e.right) = true then (oneW s l, 0) else ([], 1)
theorem insW_bad {o : Int} {l : List Sl} {x : En} (h : (((o == 0) || (o == 1)) && x.right) = false) : insW o l x = ([], 1) := by
  unfold insW
  by_cases h0 : o = 0
  · subst h0
    have : x.right = false := by simpa using h
    rw [if_pos rfl]; unfold ploW; rw [if_pos this]
  · by_cases h1 : o = 1
    · subst h1
      have : x.right = false := by simpa using h
      rw [if_neg (by omega), if_pos rfl]; unfold caoW; rw [if_pos this]
    · rw [if_neg h0, if_neg h1]
theorem shiftD_len (l : List Sl) (p : Nat → Nat) (x : En) : ∀ f d, (shiftD l p x f d).length ≤ f
  | 0, d => by simp [shiftD]
  | f + 1, 0 => by simp [shiftD]
  | f + 1, d + 1 => by
    rw [shiftD, List.length_cons]
    have := shiftD_len l p x f (runD l p (lenAt l (p d)) d)
    omega
theorem ploW_len (l : List Sl) (x : En) : (ploW l x).1.length ≤ l.length + 1 := by
  have hd : (downW l (toN l x.n) x).length ≤ l.length + 1 := by
    unfold downW
    split
    · rename_i k hk
      have := mem_frees.1 (List.mem_of_head? hk)
      exact Nat.le_trans (shiftD_len _ _ _ _ _) (by omega)
    · simp
  have hu : (upW l (fromN l x.n) x).length ≤ l.length + 1 := by
    have := fromN_le l x.n
    unfold upW
    split
    · exact Nat.le_trans (shiftD_len _ _ _ _ _) (by omega)
    · simp
  unfold ploW
  split
  · simp
  · split
    · simp
    · split
      · simp
      · split
        · simp
        · split
          · exact hu
          · exact hd
theorem caoW_len (l : List Sl) (x : En) : (caoW l x).1.length ≤ l.length + 2 := by
  unfold caoW
  split
  · simp
  · split
    · simp
    · split
      · simp [writesW, pairsW]
      · have hlb := wayB_len l (l.length + 1) (lowN l 0 x) []
        have hla := wayA_len l (l.length + 1) (hiN l l.length x) []
        simp only [List.length_nil, Nat.zero_add] at hlb hla
        simp only
        split
        · simp
        · split
          · rw [writesW_len]; omega
          · rw [writesW_len]; omega
theorem insW_len (o : Int) (l : List Sl) (x : En) : (insW o l x).1.length ≤ l.length + 2 := by
  have h1 := ploW_len l x
  have h2 := caoW_len l x
  unfold insW
  split
  · omega
  · split
    · exact h2
    · simp
theorem stepW_len (o : Int) (l : List Sl) (s : Stp) : (stepW o l s).1.length ≤ l.length + 2 := by
  have h1 := insW_len o l s.e
  unfold stepW
  split
  · exact h1
  · split
    · show (oneW s l).length ≤ _
      unfold oneW
      split
      · have := eachW_le (fun y => y.ok && (y.e.alike s.e && (y.e.x != s.e.x))) ⟨true, s.e⟩ 0 l; omega
      · have := eachW_le (fun y => y.ok && (y.e.alike s.e && true)) Sl.z 0 l; omega
    · simp
end Go.AM
namespace Go.Proofs.Ytmjanbhmpbhagaa.C
open Go.AM
variable {hook : Nat → Nat → List AV → Heap → Option (AV × Heap)} {lim : Nat} {H : Heap}
theorem ev_planInsert (o : Int) (v : AV) (l : List Sl) (x : En) (hv : Lst Sl.c 7 H v l) (hl : l.length < 500000) :
    ∃ v' L, ev (PX hook) lim 22 [.int .i64 o, v, .agg x.c] H = some (.tup [v', .int .i64 (insW o l x).2], H ++ L) ∧ Ow Wr.c 8 H L v' (insW o l x).1 := by
  suffices hs : EV (PX hook) lim 22 [.int .i64 o, v, .agg x.c] H fun r H' => ∃ v' L, r = .tup [v', .int .i64 (insW o l x).2] ∧ H' = H ++ L ∧ Ow Wr.c 8 H L v' (insW o l x).1 by
    rw [EV_iff] at hs; obtain ⟨r, H', h1, v', L, rfl, rfl, h2⟩ := hs; exact ⟨v', L, h1, h2⟩
  rw [EV_own _ (PF t22) rfl (by decide)]
  have nilf : ∀ (e : Int) (G : Heap), finish .slices H.length (.tup [.nils, .int .i64 e]) (H ++ G) = some (.tup [.nils, .int .i64 e], H) := fun e G => finish_two e (finish_nils _ _) (fun _ h => by cases h)
  generalize hT : [AV.fn 81 [], .fn 82 [], .fn 37 [], .fn 31 []] = T
  have hord := ev_orders (hook := hook) (lim := H.length) (H := H ++ [Blk.rw 0 6 x.c])
  rw [hT] at hord
  have hgr := growing_ok (H := H ++ [Blk.rw 0 6 x.c]) (.sl (H.length + 1) 0 0 2 true) (H ++ [Blk.rw 0 6 x.c, .rw 0 2 T]) ⟨[.rw 0 2 T], by simp⟩
  have hv1 := hv.more [Blk.rw 0 6 x.c, .rw 0 2 T]
  obtain ⟨v0, L0, h0, g0⟩ := ev_ploInsert (hook := hook) (lim := H.length) v l x hv1 hl
  obtain ⟨v1, L1, h1, g1⟩ := ev_caoInsert (hook := hook) (lim := H.length) v l x hv1 hl
  have g1 := g1.ow
  obtain ⟨w0, M0, k0, o0⟩ := g0.keep Wr.fl
  obtain ⟨w1, M1, k1, o1⟩ := g1.keep Wr.fl
  have f0 := finish_two (ploW l x).2 k0 g0.notup
  have f1 := finish_two (caoW l x).2 k1 g1.notup
  simp only [List.append_assoc, List.cons_append, List.nil_append, List.length_append, List.length_cons, List.length_nil, Nat.zero_add] at hord h0 h1 f0 f1
  unfold insW
  by_cases c0 : o = 0
  · subst c0
    rw [if_pos rfl]
    have a : ((0 : Int) == 0) = true := rfl
    have hl1 : ∀ G, loadV (H ++ (Blk.rw 0 6 x.c :: .rw 0 2 T :: G)) false 1 (.ptr (H.length + 1) 0 1) = some (.fn 82 []) := by
      intro G; rw [← hT]; simp only [go_sem, Nat.reduceAdd, Nat.reduceMul, Nat.reduceSub, Nat.reduceBEq, Nat.reduceEqDiff, Nat.reduceLeDiff, Nat.reduceLT, Nat.reduceBneDiff, Int.reduceAdd, Int.cast_ofNat_Int, Int.toNat_natCast, Int.reduceLE, Int.reduceLT, Int.reduceToNat, Int.reduceEq, ↓reduceIte]
    simp only [f22, go_sem, Nat.reduceAdd, Nat.reduceMul, Nat.reduceSub, Nat.reduceBEq, Nat.reduceEqDiff, Nat.reduceLeDiff, Nat.reduceLT, Nat.reduceBneDiff, Int.reduceAdd, Int.cast_ofNat_Int, Int.toNat_natCast, Int.reduceLE, Int.reduceLT, Int.reduceToNat, Int.reduceEq, ↓reduceIte, ev_Order, a, hord, hgr, iaddrSV_eq, Int.lt_irrefl, show (0 : Int) ≤ 0 by omega, show (0 : Int) < 2 by omega, hl1, h0, f0]
    exact ⟨w0, M0, rfl, rfl, o0⟩
  · rw [if_neg c0]
    by_cases c1 : o = 1
    · subst c1
      rw [if_pos rfl]
      have a : ((1 : Int) == 0) = false := rfl
      have b : ((1 : Int) == 1) = true := rfl
      have hl1 : ∀ G, loadV (H ++ (Blk.rw 0 6 x.c :: .rw 0 2 T :: G)) false 1 (.ptr (H.length + 1) 0 3) = some (.fn 31 []) := by
        intro G; rw [← hT]; simp only [go_sem, Nat.reduceAdd, Nat.reduceMul, Nat.reduceSub, Nat.reduceBEq, Nat.reduceEqDiff, Nat.reduceLeDiff, Nat.reduceLT, Nat.reduceBneDiff, Int.reduceAdd, Int.cast_ofNat_Int, Int.toNat_natCast, Int.reduceLE, Int.reduceLT, Int.reduceToNat, Int.reduceEq, ↓reduceIte]
      simp only [f22, go_sem, Nat.reduceAdd, Nat.reduceMul, Nat.reduceSub, Nat.reduceBEq, Nat.reduceEqDiff, Nat.reduceLeDiff, Nat.reduceLT, Nat.reduceBneDiff, Int.reduceAdd, Int.cast_ofNat_Int, Int.toNat_natCast, Int.reduceLE, Int.reduceLT, Int.reduceToNat, Int.reduceEq, ↓reduceIte, ev_Order, a, b, hord, hgr, iaddrSV_eq, show (0 : Int) ≤ 1 by omega, show (1 : Int) < 2 by omega, hl1, h1, f1]
      exact ⟨w1, M1, rfl, rfl, o1⟩
    · rw [if_neg c1]
      have a : (o == 0) = false := by simp [c0]
      have b : (o == 1) = false := by simp [c1]
      simp only [f22, go_sem, Nat.reduceAdd, Nat.reduceMul, Nat.reduceSub, Nat.reduceBEq, Nat.reduceEqDiff, Nat.reduceLeDiff, Nat.reduceLT, Nat.reduceBneDiff, Int.reduceAdd, Int.cast_ofNat_Int, Int.toNat_natCast, Int.reduceLE, Int.reduceLT, Int.reduceToNat, Int.reduceEq, ↓reduceIte, ev_Order, a, b, nilf]
      exact ⟨.nils, [], rfl, by simp, Gr.nil.ow⟩
theorem ev_planOne (o : Int) (v : AV) (l : List Sl) (s : Stp) (hv : Lst Sl.c 7 H v l) (hl : l.length < 500000) :
    ∃ v' L, ev (PX hook) lim 14 [.int .i64 o, v, .agg s.c] H = some (.tup [v', .int .i64 (stepW o l s).2], H ++ L) ∧ Ow Wr.c 8 H L v' (stepW o l s).1 := by
  unfold stepW
  cases hg : (((o == 0) || (o == 1)) && s.e.right)
  · have := ev_planOne_bad (hook := hook) (lim := lim) (H := H) o v s hg
    have hr : (if s.k = 0 then insW o l s.e else if (s.k = 1 ∨ s.k = 2) ∧ false = true then (oneW s l, 0) else ([], 1)) = (([], 1) : List Wr × Int) := by
      rw [insW_bad hg]; simp
    rw [hr]
    exact ⟨.nils, [], by rw [List.append_nil]; exact this, Gr.nil.ow⟩
  · have hg' := hg
    rw [Bool.and_eq_true] at hg'
    obtain ⟨g1, g2⟩ := hg'
    by_cases k0 : s.k = 0
    · rw [if_pos k0]
      have hv' := hv.more [Blk.rw 0 7 s.c]
      obtain ⟨v1, L1, he, hw⟩ := ev_planInsert (hook := hook) (lim := H.length) o v l s.e hv' hl
      obtain ⟨v', L', hfin, hg'⟩ := hw.keep Wr.fl
      have ff := finish_two (insW o l s.e).2 hfin hw.notup
      refine ⟨v', L', ev_own _ (PF t14) rfl (by decide) ?_, hg'⟩
      have a : (s.k == 0) = true := by simp [k0]
      simp only [go_sem, Nat.reduceAdd, Nat.reduceMul, Nat.reduceSub, Nat.reduceBEq, Nat.reduceEqDiff, Nat.reduceLeDiff, Nat.reduceLT, Nat.reduceBneDiff, Int.reduceAdd, Int.cast_ofNat_Int, Int.toNat_natCast, Int.reduceLE, Int.reduceLT, Int.reduceToNat, Int.reduceEq, ↓reduceIte] at he ff
      simp only [f14, go_sem, Nat.reduceAdd, Nat.reduceMul, Nat.reduceSub, Nat.reduceBEq, Nat.reduceEqDiff, Nat.reduceLeDiff, Nat.reduceLT, Nat.reduceBneDiff, Int.reduceAdd, Int.cast_ofNat_Int, Int.toNat_natCast, Int.reduceLE, Int.reduceLT, Int.reduceToNat, Int.reduceEq, ↓reduceIte, ev_Order, g1, ev_ERight, g2, a, he, ff]
    · rw [if_neg k0]
      by_cases k12 : s.k = 1 ∨ s.k = 2
      · rw [if_pos ⟨k12, rfl⟩]
        obtain ⟨v', L, h1, h2⟩ := ev_planOne12 (hook := hook) (lim := lim) o v l s hv (by omega) g1 g2 k12
        exact ⟨v', L, h1, h2.ow⟩
      · rw [if_neg (fun h => k12 h.1)]
        have := ev_planOne_kind (hook := hook) (lim := lim) (H := H) o v s g1 g2 k0 (fun h => k12 (Or.inl h)) (fun h => k12 (Or.inr h))
        exact ⟨.nils, [], by rw [List.append_nil]; exact this, Gr.nil.ow⟩
theorem ev_rOne (o : Int) (v : AV) (l : List Sl) (s : Stp) (hv : Lst Sl.c 7 H v l) (hl : l.length < 500000) :
    ∃ v' L, ev (PX hook) lim 15 [.int .i64 o, v, .agg s.c] H = some (.tup [v', .int .i64 (stepW o l s).2], H ++ L) ∧ Ow Wr.c 8 H L v' (stepW o l s).1 := by
  suffices hs : EV (PX hook) lim 15 [.int .i64 o, v, .agg s.c] H fun r H' => ∃ v' L, r = .tup [v', .int .i64 (stepW o l s).2] ∧ H' = H ++ L ∧ Ow Wr.c 8 H L v' (stepW o l s).1 by
    rw [EV_iff] at hs; obtain ⟨r, H', h1, v', L, rfl, rfl, h2⟩ := hs; exact ⟨v', L, h1, h2⟩
  rw [EV_own _ (PF t15) rfl (by decide)]
  have nilf : ∀ (e : Int) (G : Heap), finish .slices H.length (.tup [.nils, .int .i64 e]) (H ++ G) = some (.tup [.nils, .int .i64 e], H) := fun e G => finish_two e (finish_nils _ _) (fun _ h => by cases h)
  have hv1 := hv.more [Blk.rw 0 7 s.c]
  have hlen := hv.len
  have bad : ∀ d1 d2 d3 d4, decide (o < 0) = d1 → decide (1 < o) = d2 → decide (s.k < 0) = d3 → decide (2 < s.k) = d4 → (d1 || (d2 || (d3 || (d4 || !s.e.right)))) = true → stepW o l s = ([], 1) →
      GO (PX hook) H.length f15.body [] (Env.ofList [.int .i64 o, v, .agg s.c]) H (endX f15.res f15.mode H.length fun r H' => ∃ v' L, r = .tup [v', .int .i64 (stepW o l s).2] ∧ H' = H ++ L ∧ Ow Wr.c 8 H L v' (stepW o l s).1) := by
    intro d1 d2 d3 d4 h1 h2 h3 h4 hor hw
    rw [hw]
    cases d1
    · cases d2
      · cases d3
        · cases d4
          · have hr : s.e.right = false := by simpa using hor
            simp only [f15, go_sem, Nat.reduceAdd, Nat.reduceMul, Nat.reduceSub, Nat.reduceBEq, Nat.reduceEqDiff, Nat.reduceLeDiff, Nat.reduceLT, Nat.reduceBneDiff, Int.reduceAdd, Int.cast_ofNat_Int, Int.toNat_natCast, Int.reduceLE, Int.reduceLT, Int.reduceToNat, Int.reduceEq, ↓reduceIte, gt_iff_lt, h1, h2, h3, h4, ev_rRight8, hr, nilf]
            exact ⟨.nils, [], rfl, by simp, Gr.nil.ow⟩
          · simp only [f15, go_sem, Nat.reduceAdd, Nat.reduceMul, Nat.reduceSub, Nat.reduceBEq, Nat.reduceEqDiff, Nat.reduceLeDiff, Nat.reduceLT, Nat.reduceBneDiff, Int.reduceAdd, Int.cast_ofNat_Int, Int.toNat_natCast, Int.reduceLE, Int.reduceLT, Int.reduceToNat, Int.reduceEq, ↓reduceIte, gt_iff_lt, h1, h2, h3, h4, nilf]
            exact ⟨.nils, [], rfl, by simp, Gr.nil.ow⟩
        · simp only [f15, go_sem, Nat.reduceAdd, Nat.reduceMul, Nat.reduceSub, Nat.reduceBEq, Nat.reduceEqDiff, Nat.reduceLeDiff, Nat.reduceLT, Nat.reduceBneDiff, Int.reduceAdd, Int.cast_ofNat_Int, Int.toNat_natCast, Int.reduceLE, Int.reduceLT, Int.reduceToNat, Int.reduceEq, ↓reduceIte, gt_iff_lt, h1, h2, h3, nilf]
          exact ⟨.nils, [], rfl, by simp, Gr.nil.ow⟩
      · simp only [f15, go_sem, Nat.reduceAdd, Nat.reduceMul, Nat.reduceSub, Nat.reduceBEq, Nat.reduceEqDiff, Nat.reduceLeDiff, Nat.reduceLT, Nat.reduceBneDiff, Int.reduceAdd, Int.cast_ofNat_Int, Int.toNat_natCast, Int.reduceLE, Int.reduceLT, Int.reduceToNat, Int.reduceEq, ↓reduceIte, gt_iff_lt, h1, h2, nilf]
        exact ⟨.nils, [], rfl, by simp, Gr.nil.ow⟩
    · simp only [f15, go_sem, Nat.reduceAdd, Nat.reduceMul, Nat.reduceSub, Nat.reduceBEq, Nat.reduceEqDiff, Nat.reduceLeDiff, Nat.reduceLT, Nat.reduceBneDiff, Int.reduceAdd, Int.cast_ofNat_Int, Int.toNat_natCast, Int.reduceLE, Int.reduceLT, Int.reduceToNat, Int.reduceEq, ↓reduceIte, gt_iff_lt, h1, nilf]
      exact ⟨.nils, [], rfl, by simp, Gr.nil.ow⟩
  by_cases hgood : ((o = 0 ∨ o = 1) ∧ (s.k = 0 ∨ s.k = 1 ∨ s.k = 2)) ∧ s.e.right = true
  · obtain ⟨⟨ho, hk⟩, hr⟩ := hgood
    have d1 : decide (o < 0) = false := by rw [decide_eq_false_iff_not]; omega
    have d2 : decide (1 < o) = false := by rw [decide_eq_false_iff_not]; omega
    have d3 : decide (s.k < 0) = false := by rw [decide_eq_false_iff_not]; omega
    have d4 : decide (2 < s.k) = false := by rw [decide_eq_false_iff_not]; omega
    have hg : (((o == 0) || (o == 1)) && s.e.right) = true := by rcases ho with rfl | rfl <;> simp [hr]
    by_cases k0 : s.k = 0
    · have a : (s.k == 0) = true := by simp [k0]
      have hw : stepW o l s = insW o l s.e := by unfold stepW; rw [if_pos k0]
      rw [hw]
      unfold insW
      rcases ho with rfl | rfl
      · obtain ⟨v1, L1, he, hw⟩ := ev_rploInsert (hook := hook) (lim := H.length) v l s.e hv1 hl
        obtain ⟨v', L', hfin, hg'⟩ := hw.keep Wr.fl
        have ff := finish_two (ploW l s.e).2 hfin hw.notup
        simp only [go_sem, Nat.reduceAdd, Nat.reduceMul, Nat.reduceSub, Nat.reduceBEq, Nat.reduceEqDiff, Nat.reduceLeDiff, Nat.reduceLT, Nat.reduceBneDiff, Int.reduceAdd, Int.cast_ofNat_Int, Int.toNat_natCast, Int.reduceLE, Int.reduceLT, Int.reduceToNat, Int.reduceEq, ↓reduceIte] at he ff
        have b : ((0 : Int) == 0) = true := rfl
        rw [if_pos rfl]
        simp only [f15, go_sem, Nat.reduceAdd, Nat.reduceMul, Nat.reduceSub, Nat.reduceBEq, Nat.reduceEqDiff, Nat.reduceLeDiff, Nat.reduceLT, Nat.reduceBneDiff, Int.reduceAdd, Int.cast_ofNat_Int, Int.toNat_natCast, Int.reduceLE, Int.reduceLT, Int.reduceToNat, Int.reduceEq, ↓reduceIte, gt_iff_lt, d1, d2, d3, d4, ev_rRight8, hr, a, b, he, ff]
        exact ⟨v', L', rfl, rfl, hg'⟩
      · obtain ⟨v1, L1, he, hw⟩ := ev_rInsert (hook := hook) (lim := H.length) v l s.e hv1 hl
        have hw := hw.ow
        obtain ⟨v', L', hfin, hg'⟩ := hw.keep Wr.fl
        have ff := finish_two (caoW l s.e).2 hfin hw.notup
        simp only [go_sem, Nat.reduceAdd, Nat.reduceMul, Nat.reduceSub, Nat.reduceBEq, Nat.reduceEqDiff, Nat.reduceLeDiff, Nat.reduceLT, Nat.reduceBneDiff, Int.reduceAdd, Int.cast_ofNat_Int, Int.toNat_natCast, Int.reduceLE, Int.reduceLT, Int.reduceToNat, Int.reduceEq, ↓reduceIte] at he ff
        have b : ((1 : Int) == 0) = false := rfl
        rw [if_neg (by omega), if_pos rfl]
        simp only [f15, go_sem, Nat.reduceAdd, Nat.reduceMul, Nat.reduceSub, Nat.reduceBEq, Nat.reduceEqDiff, Nat.reduceLeDiff, Nat.reduceLT, Nat.reduceBneDiff, Int.reduceAdd, Int.cast_ofNat_Int, Int.toNat_natCast, Int.reduceLE, Int.reduceLT, Int.reduceToNat, Int.reduceEq, ↓reduceIte, gt_iff_lt, d1, d2, d3, d4, ev_rRight8, hr, a, b, he, ff]
        exact ⟨v', L', rfl, rfl, hg'⟩
    · have a : (s.k == 0) = false := by simp [k0]
      have hk' : s.k = 1 ∨ s.k = 2 := hk.resolve_left k0
      have hw : stepW o l s = (oneW s l, 0) := by unfold stepW; rw [if_neg k0, if_pos ⟨hk', hg⟩]
      rw [hw]
      simp only [f15, go_sem, Nat.reduceAdd, Nat.reduceMul, Nat.reduceSub, Nat.reduceBEq, Nat.reduceEqDiff, Nat.reduceLeDiff, Nat.reduceLT, Nat.reduceBneDiff, Int.reduceAdd, Int.cast_ofNat_Int, Int.toNat_natCast, Int.reduceLE, Int.reduceLT, Int.reduceToNat, Int.reduceEq, ↓reduceIte, gt_iff_lt, d1, d2, d3, d4, ev_rRight8, hr, a]
      refine GO_loop _ (fun m e H' => ∃ (k : Nat) (G : Heap), k + m = l.length ∧ Gr Wr.c 8 (H ++ [Blk.rw 0 7 s.c]) G (e 8) (oneW s (l.take k)) ∧ e 1 = v ∧ e 5 = .ptr H.length 0 0 ∧ e 9 = .int .i64 (k : Int) ∧ H' = H ++ (Blk.rw 0 7 s.c :: G)) ?_ l.length _ _ ?_
      · rintro m e H' ⟨k, G, hk, hgr, i1, i5, i9, rfl⟩
        cases m with
        | zero =>
          have hk0 : k = l.length := by omega
          subst hk0
          rw [List.take_length] at hgr
          obtain ⟨v', L', hfin, hg'⟩ := hgr.keep Wr.fl
          have ff := finish_two 0 hfin hgr.notup
          simp only [List.append_assoc, List.cons_append, List.nil_append] at ff
          simp only [f15b0, go_sem, Nat.reduceAdd, Nat.reduceMul, Nat.reduceSub, Nat.reduceBEq, Nat.reduceEqDiff, Nat.reduceLeDiff, Nat.reduceLT, Nat.reduceBneDiff, Int.reduceAdd, Int.cast_ofNat_Int, Int.toNat_natCast, Int.reduceLE, Int.reduceLT, Int.reduceToNat, Int.reduceEq, ↓reduceIte, i1, i5, i9, hlen, lt_false, ff]
          exact ⟨v', L', rfl, rfl, hg'.ow⟩
        | succ m =>
          obtain ⟨t, ht, _⟩ := get_of_lt (show k < l.length by omega)
          obtain ⟨id, ver, q, E⟩ := hv.at (by omega) Sl.len ht
          have d := lt_true (show k < l.length by omega)
          have a1 := wrap_succ (show k < 1000000 by omega)
          have w6 := E.x6
          have w6' := E.x6'
          have hlk : (l.take k).length = k := by rw [List.length_take]; omega
          have hle : (oneW s (l.take k)).length ≤ k := by
            unfold oneW
            split
            · have := eachW_le (fun y => y.ok && (y.e.alike s.e && (y.e.x != s.e.x))) ⟨true, s.e⟩ 0 (l.take k); omega
            · have := eachW_le (fun y => y.ok && (y.e.alike s.e && true)) Sl.z 0 (l.take k); omega
          have hsn : oneW s (l.take (k + 1)) = oneW s (l.take k) ++ (if (t.ok && (t.e.alike s.e && (if s.k = 1 then (t.e.x != s.e.x) else true))) = true then [⟨(k : Int), if s.k = 1 then ⟨true, s.e⟩ else Sl.z⟩] else []) := by
            rw [take_succ_of ht]
            unfold oneW
            by_cases k1 : s.k = 1
            · simp only [if_pos k1]
              rw [eachW_snoc, hlk, Nat.zero_add]
            · simp only [if_neg k1]
              rw [eachW_snoc, hlk, Nat.zero_add]
          cases b1 : t.ok
          · rw [b1, Bool.false_and, if_neg (by simp), List.append_nil] at hsn
            simp only [f15b0, go_sem, Nat.reduceAdd, Nat.reduceMul, Nat.reduceSub, Nat.reduceBEq, Nat.reduceEqDiff, Nat.reduceLeDiff, Nat.reduceLT, Nat.reduceBneDiff, Int.reduceAdd, Int.cast_ofNat_Int, Int.toNat_natCast, Int.reduceLE, Int.reduceLT, Int.reduceToNat, Int.reduceEq, ↓reduceIte, i1, i5, i9, hlen, d, a1, E.adr, E.adr', E.cel, E.cel', E.all, E.all', E.part, E.part', E.part0, E.part0', E.one, E.one', E.one0, E.one0', b1]
            exact ⟨m, by omega, k + 1, G, by omega, by rw [hsn]; exact hgr, rfl, rfl⟩
          · cases b2 : t.e.alike s.e
            · rw [b1, b2, Bool.false_and, Bool.and_false, if_neg (by simp), List.append_nil] at hsn
              simp only [f15b0, go_sem, Nat.reduceAdd, Nat.reduceMul, Nat.reduceSub, Nat.reduceBEq, Nat.reduceEqDiff, Nat.reduceLeDiff, Nat.reduceLT, Nat.reduceBneDiff, Int.reduceAdd, Int.cast_ofNat_Int, Int.toNat_natCast, Int.reduceLE, Int.reduceLT, Int.reduceToNat, Int.reduceEq, ↓reduceIte, i1, i5, i9, hlen, d, a1, E.adr, E.adr', E.cel, E.cel', E.all, E.all', E.part, E.part', E.part0, E.part0', E.one, E.one', E.one0, E.one0', b1, ev_rAlike, b2]
              exact ⟨m, by omega, k + 1, G, by omega, by rw [hsn]; exact hgr, rfl, rfl⟩
            · rcases hk' with k1 | k2
              · have c2 : (s.k == 2) = false := by rw [k1]; rfl
                have c1 : (s.k == 1) = true := by rw [k1]; rfl
                rw [b1, b2, if_pos k1, if_pos k1] at hsn
                cases b3 : (t.e.x != s.e.x)
                · rw [b3, Bool.and_false, Bool.and_false, if_neg (by simp), List.append_nil] at hsn
                  simp only [f15b0, go_sem, Nat.reduceAdd, Nat.reduceMul, Nat.reduceSub, Nat.reduceBEq, Nat.reduceEqDiff, Nat.reduceLeDiff, Nat.reduceLT, Nat.reduceBneDiff, Int.reduceAdd, Int.cast_ofNat_Int, Int.toNat_natCast, Int.reduceLE, Int.reduceLT, Int.reduceToNat, Int.reduceEq, ↓reduceIte, i1, i5, i9, hlen, d, a1, E.adr, E.adr', E.cel, E.cel', E.all, E.all', E.part, E.part', E.part0, E.part0', E.one, E.one', E.one0, E.one0', w6, w6', b1, ev_rAlike, b2, c2, c1, b3]
                  exact ⟨m, by omega, k + 1, G, by omega, by rw [hsn]; exact hgr, rfl, rfl⟩
                · rw [b3, if_pos (by simp)] at hsn
                  obtain ⟨v', G', hpu, hg'⟩ := hgr.push0 (bytes := 64) (lim := H.length) (⟨(k : Int), ⟨true, s.e⟩⟩ : Wr) rfl (by simp) (by omega)
                  simp only [go_sem, Nat.reduceAdd, Nat.reduceMul, Nat.reduceSub, Nat.reduceBEq, Nat.reduceEqDiff, Nat.reduceLeDiff, Nat.reduceLT, Nat.reduceBneDiff, Int.reduceAdd, Int.cast_ofNat_Int, Int.toNat_natCast, Int.reduceLE, Int.reduceLT, Int.reduceToNat, Int.reduceEq, ↓reduceIte, show H.length + 1 + G.length = H.length + (G.length + 1) by omega] at hpu
                  simp only [f15b0, go_sem, Nat.reduceAdd, Nat.reduceMul, Nat.reduceSub, Nat.reduceBEq, Nat.reduceEqDiff, Nat.reduceLeDiff, Nat.reduceLT, Nat.reduceBneDiff, Int.reduceAdd, Int.cast_ofNat_Int, Int.toNat_natCast, Int.reduceLE, Int.reduceLT, Int.reduceToNat, Int.reduceEq, ↓reduceIte, i1, i5, i9, hlen, d, a1, E.adr, E.adr', E.cel, E.cel', E.all, E.all', E.part, E.part', E.part0, E.part0', E.one, E.one', E.one0, E.one0', w6, w6', b1, ev_rAlike, b2, c2, c1, b3, hpu]
                  exact ⟨m, by omega, k + 1, G', by omega, by rw [hsn]; exact hg', rfl, rfl⟩
              · have c2 : (s.k == 2) = true := by rw [k2]; rfl
                have c1 : (s.k == 1) = false := by rw [k2]; rfl
                have nk1 : ¬ s.k = 1 := by omega
                rw [b1, b2, if_neg nk1, if_neg nk1, if_pos (by simp)] at hsn
                have hz0 : Sl.c Sl.z = [.bool false, u64 0#64, u64 0#64, u64 0#64, u64 0#64, .int .i64 0, .int .i64 0] := rfl
                have hz : Wr.c ⟨(k : Int), Sl.z⟩ = [.int .i64 (k : Int), .bool false, u64 0#64, u64 0#64, u64 0#64, u64 0#64, .int .i64 0, .int .i64 0] := by rw [← Wr.of, hz0]
                obtain ⟨v', G', hpu, hg'⟩ := hgr.push0 (bytes := 64) (lim := H.length) (⟨(k : Int), Sl.z⟩ : Wr) rfl (by simp) (by omega)
                rw [hz] at hpu
                simp only [go_sem, Nat.reduceAdd, Nat.reduceMul, Nat.reduceSub, Nat.reduceBEq, Nat.reduceEqDiff, Nat.reduceLeDiff, Nat.reduceLT, Nat.reduceBneDiff, Int.reduceAdd, Int.cast_ofNat_Int, Int.toNat_natCast, Int.reduceLE, Int.reduceLT, Int.reduceToNat, Int.reduceEq, ↓reduceIte, show H.length + 1 + G.length = H.length + (G.length + 1) by omega] at hpu
                simp only [f15b0, go_sem, Nat.reduceAdd, Nat.reduceMul, Nat.reduceSub, Nat.reduceBEq, Nat.reduceEqDiff, Nat.reduceLeDiff, Nat.reduceLT, Nat.reduceBneDiff, Int.reduceAdd, Int.cast_ofNat_Int, Int.toNat_natCast, Int.reduceLE, Int.reduceLT, Int.reduceToNat, Int.reduceEq, ↓reduceIte, i1, i5, i9, hlen, d, a1, E.adr, E.adr', E.cel, E.cel', E.all, E.all', E.part, E.part', E.part0, E.part0', E.one, E.one', E.one0, E.one0', w6, w6', b1, ev_rAlike, b2, c2, c1, hpu]
                exact ⟨m, by omega, k + 1, G', by omega, by rw [hsn]; exact hg', rfl, rfl⟩
      · refine ⟨0, [], by omega, ?_, by simp only [go_sem, Nat.reduceAdd, Nat.reduceMul, Nat.reduceSub, Nat.reduceBEq, Nat.reduceEqDiff, Nat.reduceLeDiff, Nat.reduceLT, Nat.reduceBneDiff, Int.reduceAdd, Int.cast_ofNat_Int, Int.toNat_natCast, Int.reduceLE, Int.reduceLT, Int.reduceToNat, Int.reduceEq, ↓reduceIte], by simp only [go_sem, Nat.reduceAdd, Nat.reduceMul, Nat.reduceSub, Nat.reduceBEq, Nat.reduceEqDiff, Nat.reduceLeDiff, Nat.reduceLT, Nat.reduceBneDiff, Int.reduceAdd, Int.cast_ofNat_Int, Int.toNat_natCast, Int.reduceLE, Int.reduceLT, Int.reduceToNat, Int.reduceEq, ↓reduceIte], by simp only [go_sem, Nat.reduceAdd, Nat.reduceMul, Nat.reduceSub, Nat.reduceBEq, Nat.reduceEqDiff, Nat.reduceLeDiff, Nat.reduceLT, Nat.reduceBneDiff, Int.reduceAdd, Int.cast_ofNat_Int, Int.toNat_natCast, Int.reduceLE, Int.reduceLT, Int.reduceToNat, Int.reduceEq, ↓reduceIte], by simp only [go_sem, Nat.reduceAdd, Nat.reduceMul, Nat.reduceSub, Nat.reduceBEq, Nat.reduceEqDiff, Nat.reduceLeDiff, Nat.reduceLT, Nat.reduceBneDiff, Int.reduceAdd, Int.cast_ofNat_Int, Int.toNat_natCast, Int.reduceLE, Int.reduceLT, Int.reduceToNat, Int.reduceEq, ↓reduceIte]⟩
        simp only [go_sem, Nat.reduceAdd, Nat.reduceMul, Nat.reduceSub, Nat.reduceBEq, Nat.reduceEqDiff, Nat.reduceLeDiff, Nat.reduceLT, Nat.reduceBneDiff, Int.reduceAdd, Int.cast_ofNat_Int, Int.toNat_natCast, Int.reduceLE, Int.reduceLT, Int.reduceToNat, Int.reduceEq, ↓reduceIte]
        have : oneW s [] = [] := by unfold oneW; split <;> rfl
        rw [this]; exact Gr.nil
  · refine bad _ _ _ _ rfl rfl rfl rfl ?_ ?_
    · cases hr : s.e.right
      · simp
      · rw [hr] at hgood
        have hg2 : ¬ ((o = 0 ∨ o = 1) ∧ (s.k = 0 ∨ s.k = 1 ∨ s.k = 2)) := fun h => hgood ⟨h, rfl⟩
        simp only [Bool.or_eq_true, decide_eq_true_eq, Bool.not_true, Bool.false_eq_true, or_false]
        omega
    · unfold stepW
      cases hr : s.e.right
      · have hb : (((o == 0) || (o == 1)) && s.e.right) = false := by rw [hr]; simp
        rw [insW_bad hb]
        simp
      · rw [hr] at hgood
        by_cases ho : o = 0 ∨ o = 1
        · have hk : ¬ (s.k = 0 ∨ s.k = 1 ∨ s.k = 2) := fun h => hgood ⟨⟨ho, h⟩, rfl⟩
          rw [if_neg (fun h => hk (Or.inl h)), if_neg (fun h => hk (Or.inr h.1))]
        · have hb : (((o == 0) || (o == 1)) && s.e.right) = false := by
            have h0 : (o == 0) = false := by rw [beq_eq_false_iff_ne]; omega
            have h1 : (o == 1) = false := by rw [beq_eq_false_iff_ne]; omega
            rw [h0, h1]; rfl
          rw [insW_bad hb]
          have h0 : (o == 0) = false := by rw [beq_eq_false_iff_ne]; omega
          have h1 : (o == 1) = false := by rw [beq_eq_false_iff_ne]; omega
          simp [h0, h1]
theorem planInserts_true (o : Int) (v : AV) (l : List Sl) (x : En) (hv : Lst Sl.c 7 H v l) : ev (PX hook) lim 4 [.int .i64 o, v, .agg x.c] H = some (.bool true, H) := by
  refine ev_own _ (PF t4) rfl (by decide) ?_
  have hlen := hv.len
  by_cases hn : l.length ≤ 20
  · have d : decide ((20 : Int) < (l.length : Int)) = false := by rw [decide_eq_false_iff_not]; omega
    have hv1 := hv.more [Blk.rw 0 6 x.c]
    obtain ⟨v2, L2, h2, g2⟩ := ev_planInsert (hook := hook) (lim := H.length) o v l x hv1 (by omega)
    have hv2 := hv1.more L2
    obtain ⟨v1, L1, h1, g1⟩ := ev_law08Of (hook := hook) (lim := H.length) v l hv2 (by omega)
    have hgr := growing_ok (H := (H ++ [Blk.rw 0 6 x.c]) ++ L2) v1 (((H ++ [Blk.rw 0 6 x.c]) ++ L2) ++ L1) ⟨L1, rfl⟩
    obtain ⟨v3, L3, h3, g3⟩ := ev_rOne (hook := hook) (lim := H.length) o v1 l ⟨0, x⟩ g1.lst (by omega)
    have hst : stepW o l ⟨0, x⟩ = insW o l x := by unfold stepW; rw [if_pos rfl]
    rw [hst] at h3 g3
    have hwl := insW_len o l x
    have hw := ev_law12Writes (hook := hook) (lim := H.length) v2 v3 _ _ (((g2.lst Wr.len).more L1).more L3) (g3.lst Wr.len) (by omega)
    have hww : decide ((insW o l x).1 = (insW o l x).1) = true := by simp
    have hee : ((insW o l x).2 == (insW o l x).2) = true := by simp
    rw [hww] at hw
    have z0 : AV.int .i64 0 :: x.c = Stp.c ⟨0, x⟩ := rfl
    simp only [List.append_assoc, List.cons_append, List.nil_append] at h1 h2 h3 hw hgr
    simp only [f4, go_sem, Nat.reduceAdd, Nat.reduceMul, Nat.reduceSub, Nat.reduceBEq, Nat.reduceEqDiff, Nat.reduceLeDiff, Nat.reduceLT, Nat.reduceBneDiff, Int.reduceAdd, Int.cast_ofNat_Int, Int.toNat_natCast, Int.reduceLE, Int.reduceLT, Int.reduceToNat, Int.reduceEq, ↓reduceIte, hlen, gt_iff_lt, d, h1, h2, hgr, ev_law05One, z0, h3, hw, hee, ev_awake14]
  · have d : decide ((20 : Int) < (l.length : Int)) = true := by rw [decide_eq_true_eq]; omega
    simp only [f4, go_sem, Nat.reduceAdd, Nat.reduceMul, Nat.reduceSub, Nat.reduceBEq, Nat.reduceEqDiff, Nat.reduceLeDiff, Nat.reduceLT, Nat.reduceBneDiff, Int.reduceAdd, Int.cast_ofNat_Int, Int.toNat_natCast, Int.reduceLE, Int.reduceLT, Int.reduceToNat, Int.reduceEq, ↓reduceIte, hlen, gt_iff_lt, d, ev_awake14]
theorem planOne_true (o : Int) (v : AV) (l : List Sl) (s : Stp) (hv : Lst Sl.c 7 H v l) : ev (PX hook) lim 3 [.int .i64 o, v, .agg s.c] H = some (.bool true, H) := by
  refine ev_own _ (PF t3) rfl (by decide) ?_
  have hlen := hv.len
  by_cases hn : l.length ≤ 20
  · have d : decide ((20 : Int) < (l.length : Int)) = false := by rw [decide_eq_false_iff_not]; omega
    have hv1 := hv.more [Blk.rw 0 7 s.c]
    obtain ⟨v1, L1, h1, g1⟩ := ev_law08Of (hook := hook) (lim := H.length) v l hv1 (by omega)
    have hv2 := hv1.more L1
    obtain ⟨v2, L2, h2, g2⟩ := ev_planOne (hook := hook) (lim := H.length) o v l s hv2 (by omega)
    have hlit : Lst Stp.c 7 ((((H ++ [Blk.rw 0 7 s.c]) ++ L1) ++ L2) ++ [.rw 0 7 s.c]) (.sl (H.length + (L1.length + L2.length + 1)) 0 0 1 true) [s] := by
      have := Lst.lit Stp.len (((H ++ [Blk.rw 0 7 s.c]) ++ L1) ++ L2) [] [s] true
      rw [cat_one] at this
      have e : ((((H ++ [Blk.rw 0 7 s.c]) ++ L1) ++ L2)).length = H.length + (L1.length + L2.length + 1) := by simp
      rw [e] at this
      exact this
    obtain ⟨v4, L4, h4, g4⟩ := ev_law14steps (hook := hook) (lim := H.length) _ [s] hlit (by simp)
    obtain ⟨id, ver, q, E⟩ := g4.lst.at (by omega) Stp.len (show [s][0]? = some s from rfl)
    have z0 : ((0 : Nat) : Int) = 0 := rfl
    have ea := E.adr'
    rw [z0] at ea
    obtain ⟨v3, L3, h3, g3⟩ := ev_rOne (hook := hook) (lim := H.length) o v1 l s (((g1.lst.more L2).more [.rw 0 7 s.c]).more L4) (by omega)
    have hwl := stepW_len o l s
    have hw := ev_law12Writes (hook := hook) (lim := H.length) v2 v3 _ _ ((((g2.lst Wr.len).more [.rw 0 7 s.c]).more L4).more L3) (g3.lst Wr.len) (by omega)
    have hww : decide ((stepW o l s).1 = (stepW o l s).1) = true := by simp
    have hll : decide (l = l) = true := by simp
    have hee : ((stepW o l s).2 == (stepW o l s).2) = true := by simp
    rw [hww] at hw
    have hv3 := (((hv2.more L2).more [.rw 0 7 s.c]).more L4).more L3
    have g13 := (((g1.lst.more L2).more [.rw 0 7 s.c]).more L4).more L3
    have hs := ev_law08Same (hook := hook) (lim := H.length) v v1 l l hv3 g13 (by omega)
    rw [hll] at hs
    have hk1 := ev_planKept (hook := hook) (lim := H.length) o v l hv3 (by omega)
    have hk2 := ev_rKept (hook := hook) (lim := H.length) o v1 l g13 (by omega)
    have hkk : ((keptBy o l) == (keptBy o l)) = true := by simp
    have hal := E.all'
    simp only [List.append_assoc, List.cons_append, List.nil_append] at h1 h2 h3 h4 hw hs hk1 hk2 ea hal
    have ho : ((o == 0 || o == 1) == (o == 0 || o == 1)) = true := by simp
    cases ho0 : (o == 0)
    · rw [ho0, Bool.false_or] at ho
      simp only [f3, go_sem, Nat.reduceAdd, Nat.reduceMul, Nat.reduceSub, Nat.reduceBEq, Nat.reduceEqDiff, Nat.reduceLeDiff, Nat.reduceLT, Nat.reduceBneDiff, Int.reduceAdd, Int.cast_ofNat_Int, Int.toNat_natCast, Int.reduceLE, Int.reduceLT, Int.reduceToNat, Int.reduceEq, ↓reduceIte, hlen, gt_iff_lt, d, h1, h2, h4, ea, hal, h3, hw, hee, hs, hk1, hk2, hkk, ev_Order, ho0, ho, ev_awake14]
    · simp only [f3, go_sem, Nat.reduceAdd, Nat.reduceMul, Nat.reduceSub, Nat.reduceBEq, Nat.reduceEqDiff, Nat.reduceLeDiff, Nat.reduceLT, Nat.reduceBneDiff, Int.reduceAdd, Int.cast_ofNat_Int, Int.toNat_natCast, Int.reduceLE, Int.reduceLT, Int.reduceToNat, Int.reduceEq, ↓reduceIte, hlen, gt_iff_lt, d, h1, h2, h4, ea, hal, h3, hw, hee, hs, hk1, hk2, hkk, ev_Order, ho0, show (true == true) = true from rfl, ev_awake14]
  · have d : decide ((20 : Int) < (l.length : Int)) = true := by rw [decide_eq_true_eq]; omega
    simp only [f3, go_sem, Nat.reduceAdd, Nat.reduceMul, Nat.reduceSub, Nat.reduceBEq, Nat.reduceEqDiff, Nat.reduceLeDiff, Nat.reduceLT, Nat.reduceBneDiff, Int.reduceAdd, Int.cast_ofNat_Int, Int.toNat_natCast, Int.reduceLE, Int.reduceLT, Int.reduceToNat, Int.reduceEq, ↓reduceIte, hlen, gt_iff_lt, d, ev_awake14]
end Go.Proofs.Ytmjanbhmpbhagaa.C
