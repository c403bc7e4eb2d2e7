/- THE ORDER OF CHAINS: the program's Insert. Conditions: the slice shows the slots. -/
import Derived.Test.YtmjanbhmpbhagaaLcM
set_option linter.unusedVariables false
set_option linter.unusedSimpArgs false
namespace Go.AM
theorem wayB_in (l : List Sl) : ∀ (f i : Nat) (way : List Nat), (∀ a ∈ way, a < l.length) → ∀ a ∈ wayB l f i way, a < l.length
  | 0, i, way, h, a, ha => by cases ha
  | f + 1, i, way, h, a, ha => by
    rw [wayB] at ha
    split at ha
    · cases ha
    · rename_i s hs
      have hi := (List.getElem?_eq_some_iff.1 hs).1
      split at ha
      · rename_i k hk
        have hk' := mem_frees.1 (List.mem_of_head? hk)
        have := firstN_le (fun t => t.ok && s.e.above t.e) l (l.length - (i + 1)) (i + 1) (by omega)
        rcases List.mem_append.1 ha with h1 | h1
        · exact h a h1
        · simp only [List.mem_cons, List.not_mem_nil, or_false] at h1
          rcases h1 with rfl | rfl
          · exact hi
          · have h2 := hk'.2.1
            unfold lowN at h2; omega
      · refine wayB_in l f _ _ (fun b hb => ?_) a ha
        rcases List.mem_append.1 hb with h1 | h1
        · exact h b h1
        · simp at h1; omega
theorem wayA_in (l : List Sl) : ∀ (f i : Nat) (way : List Nat), (∀ a ∈ way, a < l.length) → ∀ a ∈ wayA l f i way, a < l.length
  | 0, i, way, h, a, ha => by cases ha
  | f + 1, 0, way, h, a, ha => by cases ha
  | f + 1, i + 1, way, h, a, ha => by
    rw [wayA] at ha
    split at ha
    · cases ha
    · rename_i s hs
      have hi := (List.getElem?_eq_some_iff.1 hs).1
      split at ha
      · rename_i k hk
        have hk' := mem_frees.1 (List.mem_of_getLast? hk)
        rcases List.mem_append.1 ha with h1 | h1
        · exact h a h1
        · simp only [List.mem_cons, List.not_mem_nil, or_false] at h1
          rcases h1 with rfl | rfl
          · exact hi
          · omega
      · refine wayA_in l f _ _ (fun b hb => ?_) a ha
        rcases List.mem_append.1 hb with h1 | h1
        · exact h b h1
        · simp at h1; omega
theorem wayB_len (l : List Sl) : ∀ (f i : Nat) (way : List Nat), (wayB l f i way).length ≤ way.length + f + 1
  | 0, i, way => by simp [wayB]
  | f + 1, i, way => by
    rw [wayB]
    split
    · simp
    · split
      · simp
      · have := wayB_len l f (lowN l (i + 1) (by assumption : Sl).e) (way ++ [i])
        refine Nat.le_trans (wayB_len l f _ _) ?_
        simp; omega
theorem wayA_len (l : List Sl) : ∀ (f i : Nat) (way : List Nat), (wayA l f i way).length ≤ way.length + f + 1
  | 0, i, way => by simp [wayA]
  | f + 1, 0, way => by simp [wayA]
  | f + 1, i + 1, way => by
    rw [wayA]
    split
    · simp
    · split
      · simp
      · refine Nat.le_trans (wayA_len l f _ _) ?_
        simp; omega
end Go.AM
namespace Go.Proofs.Ytmjanbhmpbhagaa.C
open Go.AM
variable {hook : Nat → Nat → List AV → Heap → Option (AV × Heap)} {lim : Nat} {H : Heap}
theorem ev_caoInsert (v : AV) (l : List Sl) (x : En) (hv : Lst Sl.c 7 H v l) (hl : l.length < 500000) :
    ∃ v' L, ev (PX hook) lim 31 [v, .agg x.c] H = some (.tup [v', .int .i64 (caoW l x).2], H ++ L) ∧ Gr Wr.c 8 H L v' (caoW l x).1 := by
  suffices hs : EV (PX hook) lim 31 [v, .agg x.c] H fun r H' => ∃ v' L, r = .tup [v', .int .i64 (caoW l x).2] ∧ H' = H ++ L ∧ Gr Wr.c 8 H L v' (caoW l x).1 by
    rw [EV_iff] at hs; obtain ⟨r, H', h1, v', L, rfl, rfl, h2⟩ := hs; exact ⟨v', L, h1, h2⟩
  rw [EV_own _ (PF t31) rfl (by decide)]
  -- v in a box: what it is, is a slice
  have hone : v.cellsOf = some [v] := by
    rcases hv with ⟨_, rfl⟩ | ⟨id, ver, off, m, cs, rfl, _⟩ <;> rfl
  have hv1 := hv.more [Blk.rw 0 1 [v], .rw 0 6 x.c]
  have hgap := ev_caoGap (hook := hook) (lim := H.length) v l x hv1 (by omega)
  have hkept := ev_caoKept (hook := hook) (lim := H.length) v l hv1 (by omega)
  have nilf : ∀ (e : Int) (G : Heap), finish .slices H.length (.tup [.nils, .int .i64 e]) (H ++ G) = some (.tup [.nils, .int .i64 e], H) := fun e G => finish_two e (finish_nils _ _) (fun _ h => by cases h)
  have hlo : lowN l 0 x ≤ l.length := firstN_le _ _ _ _ (Nat.zero_le _)
  have hhi : hiN l l.length x ≤ l.length := lastN_le _ _ _
  unfold caoW
  cases hr : x.right
  · simp only [f31, go_sem, Nat.reduceAdd, Nat.reduceMul, Nat.reduceSub, Nat.reduceBEq, Nat.reduceEqDiff, Nat.reduceLeDiff, Nat.reduceLT, Nat.reduceBneDiff, Int.reduceAdd, Int.cast_ofNat_Int, Int.toNat_natCast, Int.reduceLE, Int.reduceLT, Int.reduceToNat, Int.reduceEq, ↓reduceIte, hone, hgap, ev_ERight, hr, nilf]
    exact ⟨.nils, [], rfl, by simp, Gr.nil⟩
  · rw [if_neg (by simp)]
    cases ho : ordered (ents l)
    · rw [ho] at hkept
      simp only [f31, go_sem, Nat.reduceAdd, Nat.reduceMul, Nat.reduceSub, Nat.reduceBEq, Nat.reduceEqDiff, Nat.reduceLeDiff, Nat.reduceLT, Nat.reduceBneDiff, Int.reduceAdd, Int.cast_ofNat_Int, Int.toNat_natCast, Int.reduceLE, Int.reduceLT, Int.reduceToNat, Int.reduceEq, ↓reduceIte, hone, hgap, ev_ERight, hr, hkept, nilf, true_or]
      exact ⟨.nils, [], rfl, by simp, Gr.nil⟩
    · rw [ho] at hkept
      by_cases hlt : lowN l 0 x < hiN l l.length x
      · have d : decide ((lowN l 0 x : Int) < (hiN l l.length x : Int)) = true := by rw [decide_eq_true_eq]; omega
        rw [if_pos (Or.inr hlt)]
        simp only [f31, go_sem, Nat.reduceAdd, Nat.reduceMul, Nat.reduceSub, Nat.reduceBEq, Nat.reduceEqDiff, Nat.reduceLeDiff, Nat.reduceLT, Nat.reduceBneDiff, Int.reduceAdd, Int.cast_ofNat_Int, Int.toNat_natCast, Int.reduceLE, Int.reduceLT, Int.reduceToNat, Int.reduceEq, ↓reduceIte, hone, hgap, ev_ERight, hr, hkept, d, nilf]
        exact ⟨.nils, [], rfl, by simp, Gr.nil⟩
      · have d : decide ((lowN l 0 x : Int) < (hiN l l.length x : Int)) = false := by rw [decide_eq_false_iff_not]; omega
        rw [if_neg (by simp [hlt])]
        have hemp := ev_empty (hook := hook) (lim := H.length) v l (hiN l l.length x) (lowN l 0 x) false hv1 (by omega) hlo (by omega)
        simp only [Bool.false_eq_true, if_false] at hemp
        cases hf : (frees l (hiN l l.length x) (lowN l 0 x)).head? with
        | some k =>
          rw [hf] at hemp
          simp only [optI] at hemp
          have d3 : decide ((0 : Int) ≤ (k : Int)) = true := by rw [decide_eq_true_eq]; omega
          have hkl : k < l.length := by
            have := mem_frees.1 (List.mem_of_head? hf)
            omega
          have hv2 := hv.more [Blk.rw 0 1 [v], .rw 0 6 x.c, .rw 0 1 [.int .i64 (k : Int)]]
          have hk1 : Lst nC 1 (H ++ [Blk.rw 0 1 [v], .rw 0 6 x.c, .rw 0 1 [.int .i64 (k : Int)]]) (.sl (H.length + 2) 0 0 1 true) [k] := by
            have := Lst.lit nC_len (H ++ [Blk.rw 0 1 [v], .rw 0 6 x.c]) [] [k] true
            rw [cat_one] at this
            simpa [nC] using this
          obtain ⟨v1, L1, hw, hg⟩ := ev_writes (hook := hook) (lim := H.length) v _ l [k] x hv2 hk1 (by simp) (by simpa using hkl) (by simp)
          obtain ⟨v', L', hfin, hg'⟩ := hg.keep Wr.fl
          have ff := finish_two 0 hfin hg.notup
          simp only [List.append_assoc, List.cons_append, List.nil_append] at hw ff
          simp only [f31, go_sem, Nat.reduceAdd, Nat.reduceMul, Nat.reduceSub, Nat.reduceBEq, Nat.reduceEqDiff, Nat.reduceLeDiff, Nat.reduceLT, Nat.reduceBneDiff, Int.reduceAdd, Int.cast_ofNat_Int, Int.toNat_natCast, Int.reduceLE, Int.reduceLT, Int.reduceToNat, Int.reduceEq, ↓reduceIte, hone, hgap, ev_ERight, hr, hkept, d, hemp, ge_iff_le, d3, hw, ff]
          exact ⟨v', L', rfl, rfl, hg'⟩
        | none =>
          rw [hf] at hemp
          simp only [optI] at hemp
          have d3 : decide ((0 : Int) ≤ -1) = false := by decide
          obtain ⟨w1, L1, hw1, g1⟩ := ev_walk (hook := hook) (lim := H.length) v l 64 [.ptr H.length 0 0] (nxtB l) (fun f i => 0 ≤ i ∧ (l.length : Int) ≤ i + f) (lowN l 0 x : Int) hv1 (by omega)
            (fun L a ha => ev_Insert1 v l a H.length (hv1.more L) (by omega) ha (fun L' => by simp only [go_sem, Nat.reduceAdd, Nat.reduceMul, Nat.reduceSub, Nat.reduceBEq, Nat.reduceEqDiff, Nat.reduceLeDiff, Nat.reduceLT, Nat.reduceBneDiff, Int.reduceAdd, Int.cast_ofNat_Int, Int.toNat_natCast, Int.reduceLE, Int.reduceLT, Int.reduceToNat, Int.reduceEq, ↓reduceIte]))
            (fun i h => by omega)
            (fun f a h hal => by
              have := firstN_ge (fun s => s.ok && ((l[a]?).getD Sl.z).e.above s.e) l (l.length - (a + 1)) (a + 1)
              simp only [nxtB, lowN]; omega) (l.length + 1) (by omega) (by omega)
          rw [wayG_B] at g1
          have hv2 := hv1.more L1
          have a1 : IntKind.wrap .i64 ((hiN l l.length x : Int) - 1) = (hiN l l.length x : Int) - 1 := by rw [wrap_i64] <;> omega
          obtain ⟨w2, L2, hw2, g2⟩ := ev_walk (hook := hook) (lim := H.length) v l 66 [.ptr H.length 0 0] (nxtA l) (fun f i => i < (l.length : Int) ∧ i + 1 ≤ f) ((hiN l l.length x : Int) - 1) hv2 (by omega)
            (fun L a ha => ev_Insert2 v l a H.length (hv2.more L) (by omega) ha (fun L' => by simp only [go_sem, Nat.reduceAdd, Nat.reduceMul, Nat.reduceSub, Nat.reduceBEq, Nat.reduceEqDiff, Nat.reduceLeDiff, Nat.reduceLT, Nat.reduceBneDiff, Int.reduceAdd, Int.cast_ofNat_Int, Int.toNat_natCast, Int.reduceLE, Int.reduceLT, Int.reduceToNat, Int.reduceEq, ↓reduceIte]))
            (fun i h => by omega)
            (fun f a h hal => by
              have := lastN_le (fun s => s.ok && s.e.above ((l[a]?).getD Sl.z).e) l a
              simp only [nxtA, hiN]; omega) (l.length + 1) (by omega) (by omega)
          rw [wayG_A _ _ _ _ hhi] at g2
          have hlb := wayB_len l (l.length + 1) (lowN l 0 x) []
          have hla := wayA_len l (l.length + 1) (hiN l l.length x) []
          have inb := wayB_in l (l.length + 1) (lowN l 0 x) [] (by simp)
          have ina := wayA_in l (l.length + 1) (hiN l l.length x) [] (by simp)
          simp only [List.length_nil, Nat.zero_add] at hlb hla
          generalize wayB l (l.length + 1) (lowN l 0 x) [] = b at *
          generalize wayA l (l.length + 1) (hiN l l.length x) [] = a at *
          have m1 := g1.lst.more L2
          have n1 := m1.len'
          have n2 := g2.lst.len'
          have hv3 := hv2.more L2
          have a2 : IntKind.wrap .i64 ((b.length : Int) + (a.length : Int)) = ((b.length + a.length : Nat) : Int) := by rw [wrap_i64] <;> omega
          simp only [List.append_assoc, List.cons_append, List.nil_append] at hw1 hw2 n1 n2
          simp only
          by_cases hz : b.length + a.length = 0
          · have d4 : (((b.length + a.length : Nat) : Int) == 0) = true := by rw [hz]; rfl
            rw [if_pos hz]
            simp only [f31, go_sem, Nat.reduceAdd, Nat.reduceMul, Nat.reduceSub, Nat.reduceBEq, Nat.reduceEqDiff, Nat.reduceLeDiff, Nat.reduceLT, Nat.reduceBneDiff, Int.reduceAdd, Int.cast_ofNat_Int, Int.toNat_natCast, Int.reduceLE, Int.reduceLT, Int.reduceToNat, Int.reduceEq, ↓reduceIte, hone, hgap, ev_ERight, hr, hkept, d, hemp, ge_iff_le, d3, hw1, a1, hw2, n1, n2, a2, d4, nilf]
            exact ⟨.nils, [], rfl, by simp, Gr.nil⟩
          · have d4 : (((b.length + a.length : Nat) : Int) == 0) = false := by rw [beq_eq_false_iff_ne]; omega
            rw [if_neg hz]
            by_cases hc : b.length = 0 ∨ (0 < a.length ∧ a.length < b.length)
            · rw [if_pos hc]
              have hane : a ≠ [] := by
                intro h
                rw [h] at hc hz
                simp at hc hz
                exact hz hc
              obtain ⟨v1, L3, hw, hg⟩ := ev_writes (hook := hook) (lim := H.length) v w2 l a x hv3 g2.lst hane ina (by omega)
              have hg2 := hg
              rw [List.append_assoc, List.append_assoc] at hg2
              obtain ⟨v', L', hfin, hg'⟩ := hg2.keep Wr.fl
              have ff := finish_two 0 hfin hg.notup
              simp only [List.append_assoc, List.cons_append, List.nil_append] at hw ff
              by_cases hb0 : b.length = 0
              · have d5 : ((b.length : Int) == 0) = true := by rw [hb0]; rfl
                simp only [f31, go_sem, Nat.reduceAdd, Nat.reduceMul, Nat.reduceSub, Nat.reduceBEq, Nat.reduceEqDiff, Nat.reduceLeDiff, Nat.reduceLT, Nat.reduceBneDiff, Int.reduceAdd, Int.cast_ofNat_Int, Int.toNat_natCast, Int.reduceLE, Int.reduceLT, Int.reduceToNat, Int.reduceEq, ↓reduceIte, hone, hgap, ev_ERight, hr, hkept, d, hemp, ge_iff_le, d3, hw1, a1, hw2, n1, n2, a2, d4, d5, hw, ff]
                exact ⟨v', L', rfl, rfl, hg'⟩
              · have d5 : ((b.length : Int) == 0) = false := by rw [beq_eq_false_iff_ne]; omega
                have hc2 := hc.resolve_left hb0
                have d6 : decide ((0 : Int) < (a.length : Int)) = true := by rw [decide_eq_true_eq]; omega
                have d7 := lt_true hc2.2
                simp only [f31, go_sem, Nat.reduceAdd, Nat.reduceMul, Nat.reduceSub, Nat.reduceBEq, Nat.reduceEqDiff, Nat.reduceLeDiff, Nat.reduceLT, Nat.reduceBneDiff, Int.reduceAdd, Int.cast_ofNat_Int, Int.toNat_natCast, Int.reduceLE, Int.reduceLT, Int.reduceToNat, Int.reduceEq, ↓reduceIte, hone, hgap, ev_ERight, hr, hkept, d, hemp, ge_iff_le, gt_iff_lt, d3, hw1, a1, hw2, n1, n2, a2, d4, d5, d6, d7, hw, ff]
                exact ⟨v', L', rfl, rfl, hg'⟩
            · rw [if_neg hc]
              have hbne : b ≠ [] := by intro h; rw [h] at hc; simp at hc
              obtain ⟨v1, L3, hw, hg⟩ := ev_writes (hook := hook) (lim := H.length) v w1 l b x hv3 m1 hbne inb (by omega)
              have hg2 := hg
              rw [List.append_assoc, List.append_assoc] at hg2
              obtain ⟨v', L', hfin, hg'⟩ := hg2.keep Wr.fl
              have ff := finish_two 0 hfin hg.notup
              simp only [List.append_assoc, List.cons_append, List.nil_append] at hw ff
              have d5 : ((b.length : Int) == 0) = false := by rw [beq_eq_false_iff_ne]; omega
              by_cases ha0 : 0 < a.length
              · have d6 : decide ((0 : Int) < (a.length : Int)) = true := by rw [decide_eq_true_eq]; omega
                have d7 : decide ((a.length : Int) < (b.length : Int)) = false := by rw [decide_eq_false_iff_not]; omega
                simp only [f31, go_sem, Nat.reduceAdd, Nat.reduceMul, Nat.reduceSub, Nat.reduceBEq, Nat.reduceEqDiff, Nat.reduceLeDiff, Nat.reduceLT, Nat.reduceBneDiff, Int.reduceAdd, Int.cast_ofNat_Int, Int.toNat_natCast, Int.reduceLE, Int.reduceLT, Int.reduceToNat, Int.reduceEq, ↓reduceIte, hone, hgap, ev_ERight, hr, hkept, d, hemp, ge_iff_le, gt_iff_lt, d3, hw1, a1, hw2, n1, n2, a2, d4, d5, d6, d7, hw, ff]
                exact ⟨v', L', rfl, rfl, hg'⟩
              · have d6 : decide ((0 : Int) < (a.length : Int)) = false := by rw [decide_eq_false_iff_not]; omega
                simp only [f31, go_sem, Nat.reduceAdd, Nat.reduceMul, Nat.reduceSub, Nat.reduceBEq, Nat.reduceEqDiff, Nat.reduceLeDiff, Nat.reduceLT, Nat.reduceBneDiff, Int.reduceAdd, Int.cast_ofNat_Int, Int.toNat_natCast, Int.reduceLE, Int.reduceLT, Int.reduceToNat, Int.reduceEq, ↓reduceIte, hone, hgap, ev_ERight, hr, hkept, d, hemp, ge_iff_le, gt_iff_lt, d3, hw1, a1, hw2, n1, n2, a2, d4, d5, d6, hw, ff]
                exact ⟨v', L', rfl, rfl, hg'⟩
end Go.Proofs.Ytmjanbhmpbhagaa.C
