/- ROWS MERGED: the law's functions MergeOrders and MergeParts are true whatever comes in. Conditions: the slice shows the entries. -/
import Derived.Test.YtafonoekobkcdaaLeH
set_option linter.unusedVariables false
set_option linter.unusedSimpArgs false
namespace Go.Proofs.Ytafonoekobkcdaa.C
open Go.AM
variable {hook : Nat → Nat → List AV → Heap → Option (AV × Heap)} {lim : Nat} {H : Heap}
theorem mergeOrders_true (v : AV) (l : List En) (hv : Lst En.c 6 H v l) : ev (PX hook) lim 6 [v] H = some (.bool true, H) := by
  refine ev_own _ (PF t6) rfl (by decide) ?_
  have hlen := hv.len
  have hlen' := hv.len'
  by_cases hn : l.length ≤ 12
  · have d : decide ((12 : Int) < (l.length : Int)) = false := by rw [decide_eq_false_iff_not]; omega
    simp only [f6, go_sem, Nat.reduceAdd, Nat.reduceMul, Nat.reduceSub, Nat.reduceBEq, Nat.reduceEqDiff, Nat.reduceLeDiff, Nat.reduceLT, Nat.reduceBneDiff, Int.reduceAdd, Int.cast_ofNat_Int, Int.toNat_natCast, Int.reduceLE, Int.reduceLT, Int.reduceToNat, Int.reduceEq, ↓reduceIte, hlen', gt_iff_lt, d]
    refine GO_loop _ (fun m e H' => ∃ (j : Nat) (G : Heap), j + m = l.length ∧ Gr En.c 6 H G (e 3) (l.reverse.take j) ∧ e 0 = v ∧ e 10 = .int .i64 (l.length : Int) ∧ e 11 = .int .i64 (j : Int) ∧ H' = H ++ G) ?_ l.length _ _ ?_
    · rintro m e H' ⟨j, G, hj, hg, i0, i10, i11, rfl⟩
      cases m with
      | zero =>
        have hj' : j = l.length := by omega
        subst hj'
        rw [List.take_of_length_le (by simp)] at hg
        obtain ⟨v1, L1, h1, g1⟩ := ev_MergeP (hook := hook) (lim := H.length) (e 3) _ hg.lst (by simp; exact hn)
        have hvm := (hv.more G).more L1
        obtain ⟨v2, L2, h2, g2⟩ := ev_MergeP (hook := hook) (lim := H.length) v l hvm hn
        rw [mergeW_perm (List.reverse_perm l)] at g1
        have hml := mergeW_len l
        have g1 := g1.lst En.len
        have g2 := g2.lst En.len
        obtain ⟨v3, L3, h3, g3⟩ := ev_law05Of (hook := hook) (lim := H.length) v2 _ g2 (by omega)
        have hs := ev_same10 (hook := hook) (lim := H.length) v1 v3 _ _ ((g1.more L2).more L3) g3.lst (by omega)
        have hss : decide (mergeW l = mergeW l) = true := by simp
        rw [hss] at hs
        simp only [List.append_assoc] at h1 h2 h3 hs
        simp only [f6b0, go_sem, Nat.reduceAdd, Nat.reduceMul, Nat.reduceSub, Nat.reduceBEq, Nat.reduceEqDiff, Nat.reduceLeDiff, Nat.reduceLT, Nat.reduceBneDiff, Int.reduceAdd, Int.cast_ofNat_Int, Int.toNat_natCast, Int.reduceLE, Int.reduceLT, Int.reduceToNat, Int.reduceEq, ↓reduceIte, i0, i10, i11, lt_false, h1, h2, h3, hs, ev_awake10]
      | succ m =>
        have hlt : j < l.length := by omega
        obtain ⟨x, hx, _⟩ := Go.AM.get_of_lt (show l.length - 1 - j < l.length by omega)
        obtain ⟨id, ver, q, E⟩ := hv.at (by omega) En.len hx
        have hxr : l.reverse[j]? = some x := by rw [List.getElem?_reverse hlt]; exact hx
        have dd := lt_true hlt
        have a1 := wrap_succ (show j < 1000000 by omega)
        have a2 : IntKind.wrap .i64 ((l.length : Int) - 1) = (l.length : Int) - 1 := by rw [wrap_i64] <;> omega
        have a3 : IntKind.wrap .i64 ((l.length : Int) - 1 - (j : Int)) = ((l.length - 1 - j : Nat) : Int) := by rw [wrap_i64] <;> omega
        have hlk : (l.reverse.take j).length = j := by rw [List.length_take, List.length_reverse]; omega
        obtain ⟨v', G', hpu, hg'⟩ := hg.push0 (bytes := 48) (lim := H.length) x rfl (Nat.le_refl _) (by omega)
        simp only [f6b0, go_sem, Nat.reduceAdd, Nat.reduceMul, Nat.reduceSub, Nat.reduceBEq, Nat.reduceEqDiff, Nat.reduceLeDiff, Nat.reduceLT, Nat.reduceBneDiff, Int.reduceAdd, Int.cast_ofNat_Int, Int.toNat_natCast, Int.reduceLE, Int.reduceLT, Int.reduceToNat, Int.reduceEq, ↓reduceIte, i0, i10, i11, dd, hlen, a1, a2, a3, E.adr, E.adr', E.cel, E.cel', E.all, E.all', E.part, E.part', E.part0, E.part0', E.one, E.one', E.one0, E.one0', hpu]
        exact ⟨m, by omega, j + 1, G', by omega, by rw [Go.AM.take_succ_of hxr]; exact hg', rfl, rfl⟩
    · exact ⟨0, [], by omega, by simp only [go_sem, Nat.reduceAdd, Nat.reduceMul, Nat.reduceSub, Nat.reduceBEq, Nat.reduceEqDiff, Nat.reduceLeDiff, Nat.reduceLT, Nat.reduceBneDiff, Int.reduceAdd, Int.cast_ofNat_Int, Int.toNat_natCast, Int.reduceLE, Int.reduceLT, Int.reduceToNat, Int.reduceEq, ↓reduceIte]; exact Gr.nil, by simp only [go_sem, Nat.reduceAdd, Nat.reduceMul, Nat.reduceSub, Nat.reduceBEq, Nat.reduceEqDiff, Nat.reduceLeDiff, Nat.reduceLT, Nat.reduceBneDiff, Int.reduceAdd, Int.cast_ofNat_Int, Int.toNat_natCast, Int.reduceLE, Int.reduceLT, Int.reduceToNat, Int.reduceEq, ↓reduceIte], by simp only [go_sem, Nat.reduceAdd, Nat.reduceMul, Nat.reduceSub, Nat.reduceBEq, Nat.reduceEqDiff, Nat.reduceLeDiff, Nat.reduceLT, Nat.reduceBneDiff, Int.reduceAdd, Int.cast_ofNat_Int, Int.toNat_natCast, Int.reduceLE, Int.reduceLT, Int.reduceToNat, Int.reduceEq, ↓reduceIte], by simp only [go_sem, Nat.reduceAdd, Nat.reduceMul, Nat.reduceSub, Nat.reduceBEq, Nat.reduceEqDiff, Nat.reduceLeDiff, Nat.reduceLT, Nat.reduceBneDiff, Int.reduceAdd, Int.cast_ofNat_Int, Int.toNat_natCast, Int.reduceLE, Int.reduceLT, Int.reduceToNat, Int.reduceEq, ↓reduceIte], by simp⟩
  · have d : decide ((12 : Int) < (l.length : Int)) = true := by rw [decide_eq_true_eq]; omega
    simp only [f6, go_sem, Nat.reduceAdd, Nat.reduceMul, Nat.reduceSub, Nat.reduceBEq, Nat.reduceEqDiff, Nat.reduceLeDiff, Nat.reduceLT, Nat.reduceBneDiff, Int.reduceAdd, Int.cast_ofNat_Int, Int.toNat_natCast, Int.reduceLE, Int.reduceLT, Int.reduceToNat, Int.reduceEq, ↓reduceIte, hlen', gt_iff_lt, d, ev_awake10]
theorem parts_in (u : AV) (m : List En) (x : En) (B : Heap) (k : Nat) (hu : Lst En.c 6 B u m) (hl : m.length < 1000000) (hb : ∀ L, Heap.cells (B ++ L) k 0 = some x.c) {K : List Frm} {Q : Post} {e : Env}
    (e5 : e 5 = .ptr k 0 0) (e6 : e 6 = .bool false) (e21 : e 21 = u) (e22 : e 22 = .int .i64 (m.length : Int)) (e23 : e 23 = .int .i64 0)
    (g : ∀ (e' : Env) (G : Heap), e' 3 = e 3 → e' 6 = .bool (partOf m x) → e' 15 = e 15 → e' 16 = e 16 → e' 17 = e 17 → ON (PX hook) lim K (.exit 2) e' (B ++ G) Q) :
    GO (PX hook) lim (.loop f7b0) K e B Q := by
  refine GO_loop _ (fun n e' H' => ∃ (j : Nat) (G : Heap), j + n = m.length ∧ e' 6 = .bool (partOf (m.take j) x) ∧ e' 3 = e 3 ∧ e' 5 = .ptr k 0 0 ∧ e' 15 = e 15 ∧ e' 16 = e 16 ∧ e' 17 = e 17 ∧ e' 21 = u ∧ e' 22 = .int .i64 (m.length : Int) ∧ e' 23 = .int .i64 (j : Int) ∧ H' = B ++ G) ?_ m.length _ _ ?_
  · rintro n e' H' ⟨j, G, hj, i6, i3, i5, i15, i16, i17, i21, i22, i23, rfl⟩
    cases n with
    | zero =>
      have hj' : j = m.length := by omega
      subst hj'
      rw [List.take_length] at i6
      simp only [f7b0, go_sem, Nat.reduceAdd, Nat.reduceMul, Nat.reduceSub, Nat.reduceBEq, Nat.reduceEqDiff, Nat.reduceLeDiff, Nat.reduceLT, Nat.reduceBneDiff, Int.reduceAdd, Int.cast_ofNat_Int, Int.toNat_natCast, Int.reduceLE, Int.reduceLT, Int.reduceToNat, Int.reduceEq, ↓reduceIte, i5, i6, i21, i22, i23, lt_false]
      exact g _ G (by simp only [go_sem, Nat.reduceAdd, Nat.reduceMul, Nat.reduceSub, Nat.reduceBEq, Nat.reduceEqDiff, Nat.reduceLeDiff, Nat.reduceLT, Nat.reduceBneDiff, Int.reduceAdd, Int.cast_ofNat_Int, Int.toNat_natCast, Int.reduceLE, Int.reduceLT, Int.reduceToNat, Int.reduceEq, ↓reduceIte, i3]) (by simp only [go_sem, Nat.reduceAdd, Nat.reduceMul, Nat.reduceSub, Nat.reduceBEq, Nat.reduceEqDiff, Nat.reduceLeDiff, Nat.reduceLT, Nat.reduceBneDiff, Int.reduceAdd, Int.cast_ofNat_Int, Int.toNat_natCast, Int.reduceLE, Int.reduceLT, Int.reduceToNat, Int.reduceEq, ↓reduceIte, i6]) (by simp only [go_sem, Nat.reduceAdd, Nat.reduceMul, Nat.reduceSub, Nat.reduceBEq, Nat.reduceEqDiff, Nat.reduceLeDiff, Nat.reduceLT, Nat.reduceBneDiff, Int.reduceAdd, Int.cast_ofNat_Int, Int.toNat_natCast, Int.reduceLE, Int.reduceLT, Int.reduceToNat, Int.reduceEq, ↓reduceIte, i15]) (by simp only [go_sem, Nat.reduceAdd, Nat.reduceMul, Nat.reduceSub, Nat.reduceBEq, Nat.reduceEqDiff, Nat.reduceLeDiff, Nat.reduceLT, Nat.reduceBneDiff, Int.reduceAdd, Int.cast_ofNat_Int, Int.toNat_natCast, Int.reduceLE, Int.reduceLT, Int.reduceToNat, Int.reduceEq, ↓reduceIte, i16]) (by simp only [go_sem, Nat.reduceAdd, Nat.reduceMul, Nat.reduceSub, Nat.reduceBEq, Nat.reduceEqDiff, Nat.reduceLeDiff, Nat.reduceLT, Nat.reduceBneDiff, Int.reduceAdd, Int.cast_ofNat_Int, Int.toNat_natCast, Int.reduceLE, Int.reduceLT, Int.reduceToNat, Int.reduceEq, ↓reduceIte, i17])
    | succ n =>
      obtain ⟨y, hy, _⟩ := Go.AM.get_of_lt (show j < m.length by omega)
      obtain ⟨id, ver, q, E⟩ := hu.at (by omega) En.len hy
      have d := lt_true (show j < m.length by omega)
      have a1 := wrap_succ (show j < 1000000 by omega)
      have hc := fun lim H => ev_WCovers (hook := hook) (lim := lim) (H := H) y.w x.w
      have hsn : partOf (m.take (j + 1)) x = (partOf (m.take j) x || (y.n == x.n && (y.x == x.x && y.w.covers x.w))) := by
        rw [Go.AM.take_succ_of hy]; unfold partOf; rw [List.any_append]; simp
      cases b0 : partOf (m.take j) x
      · rw [b0] at i6
        rw [b0, Bool.false_or] at hsn
        cases b1 : (y.n == x.n)
        · rw [b1, Bool.false_and] at hsn
          simp only [f7b0, go_sem, Nat.reduceAdd, Nat.reduceMul, Nat.reduceSub, Nat.reduceBEq, Nat.reduceEqDiff, Nat.reduceLeDiff, Nat.reduceLT, Nat.reduceBneDiff, Int.reduceAdd, Int.cast_ofNat_Int, Int.toNat_natCast, Int.reduceLE, Int.reduceLT, Int.reduceToNat, Int.reduceEq, ↓reduceIte, i5, i6, i21, i22, i23, d, a1, E.adr, E.adr', E.cel, E.cel', E.all, E.all', E.part, E.part', E.part0, E.part0', E.one, E.one', E.one0, E.one0', En.len, En.put, write_endE, cells_end, hb, En.get4, En.get5, En.wrd, b1]
          exact ⟨n, by omega, j + 1, _, by omega, by rw [hsn], i3, i15, i16, i17, rfl, rfl⟩
        · cases b2 : (y.x == x.x)
          · rw [b1, b2, Bool.false_and, Bool.and_false] at hsn
            simp only [f7b0, go_sem, Nat.reduceAdd, Nat.reduceMul, Nat.reduceSub, Nat.reduceBEq, Nat.reduceEqDiff, Nat.reduceLeDiff, Nat.reduceLT, Nat.reduceBneDiff, Int.reduceAdd, Int.cast_ofNat_Int, Int.toNat_natCast, Int.reduceLE, Int.reduceLT, Int.reduceToNat, Int.reduceEq, ↓reduceIte, i5, i6, i21, i22, i23, d, a1, E.adr, E.adr', E.cel, E.cel', E.all, E.all', E.part, E.part', E.part0, E.part0', E.one, E.one', E.one0, E.one0', En.len, En.put, write_endE, cells_end, hb, En.get4, En.get5, En.wrd, b1, b2]
            exact ⟨n, by omega, j + 1, _, by omega, by rw [hsn], i3, i15, i16, i17, rfl, rfl⟩
          · rw [b1, b2, Bool.true_and, Bool.true_and] at hsn
            simp only [f7b0, go_sem, Nat.reduceAdd, Nat.reduceMul, Nat.reduceSub, Nat.reduceBEq, Nat.reduceEqDiff, Nat.reduceLeDiff, Nat.reduceLT, Nat.reduceBneDiff, Int.reduceAdd, Int.cast_ofNat_Int, Int.toNat_natCast, Int.reduceLE, Int.reduceLT, Int.reduceToNat, Int.reduceEq, ↓reduceIte, i5, i6, i21, i22, i23, d, a1, E.adr, E.adr', E.cel, E.cel', E.all, E.all', E.part, E.part', E.part0, E.part0', E.one, E.one', E.one0, E.one0', En.len, En.put, write_endE, cells_end, hb, En.get4, En.get5, En.wrd, b1, b2, hc]
            exact ⟨n, by omega, j + 1, _, by omega, by rw [hsn], i3, i15, i16, i17, rfl, rfl⟩
      · rw [b0] at i6
        rw [b0, Bool.true_or] at hsn
        simp only [f7b0, go_sem, Nat.reduceAdd, Nat.reduceMul, Nat.reduceSub, Nat.reduceBEq, Nat.reduceEqDiff, Nat.reduceLeDiff, Nat.reduceLT, Nat.reduceBneDiff, Int.reduceAdd, Int.cast_ofNat_Int, Int.toNat_natCast, Int.reduceLE, Int.reduceLT, Int.reduceToNat, Int.reduceEq, ↓reduceIte, i5, i6, i21, i22, i23, d, a1, E.adr, E.adr', E.cel, E.cel', E.all, E.all', E.part, E.part', E.part0, E.part0', E.one, E.one', E.one0, E.one0', En.len, En.put, write_endE, cells_end, hb, En.get4, En.get5, En.wrd]
        exact ⟨n, by omega, j + 1, _, by omega, by rw [hsn], i3, i15, i16, i17, rfl, rfl⟩
  · exact ⟨0, [], by omega, e6, rfl, e5, rfl, rfl, rfl, e21, e22, e23, by simp⟩
theorem mergeParts_true (v : AV) (l : List En) (hv : Lst En.c 6 H v l) : ev (PX hook) lim 7 [v] H = some (.bool true, H) := by
  refine ev_own _ (PF t7) rfl (by decide) ?_
  have hlen := hv.len'
  by_cases hn : l.length ≤ 12
  · have d : decide ((12 : Int) < (l.length : Int)) = false := by rw [decide_eq_false_iff_not]; omega
    have hml := mergeW_len l
    obtain ⟨v1, L1, h1, g1⟩ := ev_MergeP (hook := hook) (lim := H.length) v l hv hn
    have g1 := g1.lst En.len
    simp only [f7, go_sem, Nat.reduceAdd, Nat.reduceMul, Nat.reduceSub, Nat.reduceBEq, Nat.reduceEqDiff, Nat.reduceLeDiff, Nat.reduceLT, Nat.reduceBneDiff, Int.reduceAdd, Int.cast_ofNat_Int, Int.toNat_natCast, Int.reduceLE, Int.reduceLT, Int.reduceToNat, Int.reduceEq, ↓reduceIte, hlen, gt_iff_lt, d, h1, hv.len]
    refine GO_loop _ (fun m e H' => ∃ (j : Nat) (G : Heap), j + m = l.length ∧ e 3 = v1 ∧ e 15 = v ∧ e 16 = .int .i64 (l.length : Int) ∧ e 17 = .int .i64 (j : Int) ∧ H' = H ++ (L1 ++ G)) ?_ l.length _ _ ?_
    · rintro m e H' ⟨j, G, hj, i3, i15, i16, i17, rfl⟩
      cases m with
      | zero =>
        have hj' : j = l.length := by omega
        subst hj'
        simp only [f7b1, go_sem, Nat.reduceAdd, Nat.reduceMul, Nat.reduceSub, Nat.reduceBEq, Nat.reduceEqDiff, Nat.reduceLeDiff, Nat.reduceLT, Nat.reduceBneDiff, Int.reduceAdd, Int.cast_ofNat_Int, Int.toNat_natCast, Int.reduceLE, Int.reduceLT, Int.reduceToNat, Int.reduceEq, ↓reduceIte, i3, i15, i16, i17, lt_false, ev_awake10]
      | succ m =>
        obtain ⟨x, hx, _⟩ := Go.AM.get_of_lt (show j < l.length by omega)
        obtain ⟨id, ver, q, E⟩ := hv.at (by omega) En.len hx
        have dd := lt_true (show j < l.length by omega)
        have a1 := wrap_succ (show j < 1000000 by omega)
        have hw : ∀ (a b c d f g : AV), Heap.write (H ++ (L1 ++ (G ++ [Blk.rw 0 6 [a, b, c, d, f, g]]))) H.length (H.length + (L1.length + G.length)) 0 0 x.c = some (H ++ (L1 ++ (G ++ [Blk.rw 0 6 x.c]))) := by
          intro a b c d f g
          have := write_endE H (L1 ++ G) a b c d f g x H.length
          simpa only [List.append_assoc, List.length_append] using this
        have hb : ∀ L, Heap.cells ((H ++ (L1 ++ (G ++ [Blk.rw 0 6 x.c]))) ++ L) (H.length + (L1.length + G.length)) 0 = some x.c := by
          intro L
          have := cells_at (H ++ (L1 ++ G)) L (Blk.rw 0 6 x.c) (H.length + (L1.length + G.length)) (by simp)
          simpa [Blk.ver, Blk.cells] using this
        have hu : Lst En.c 6 (H ++ (L1 ++ (G ++ [Blk.rw 0 6 x.c]))) v1 (mergeW l) := by
          have := g1.more (G ++ [Blk.rw 0 6 x.c])
          rwa [List.append_assoc] at this
        have hun := hu.len'
        have hp := mergeW_parts l x (List.mem_of_getElem? hx)
        simp only [f7b1, go_sem, Nat.reduceAdd, Nat.reduceMul, Nat.reduceSub, Nat.reduceBEq, Nat.reduceEqDiff, Nat.reduceLeDiff, Nat.reduceLT, Nat.reduceBneDiff, Int.reduceAdd, Int.cast_ofNat_Int, Int.toNat_natCast, Int.reduceLE, Int.reduceLT, Int.reduceToNat, Int.reduceEq, ↓reduceIte, i3, i15, i16, i17, dd, E.adr, E.adr', E.cel, E.cel', E.all, E.all', E.part, E.part', E.part0, E.part0', E.one, E.one', E.one0, E.one0', En.len, hw, hun]
        refine parts_in v1 (mergeW l) x _ (H.length + (L1.length + G.length)) hu (by omega) hb (by simp only [go_sem, Nat.reduceAdd, Nat.reduceMul, Nat.reduceSub, Nat.reduceBEq, Nat.reduceEqDiff, Nat.reduceLeDiff, Nat.reduceLT, Nat.reduceBneDiff, Int.reduceAdd, Int.cast_ofNat_Int, Int.toNat_natCast, Int.reduceLE, Int.reduceLT, Int.reduceToNat, Int.reduceEq, ↓reduceIte]) (by simp only [go_sem, Nat.reduceAdd, Nat.reduceMul, Nat.reduceSub, Nat.reduceBEq, Nat.reduceEqDiff, Nat.reduceLeDiff, Nat.reduceLT, Nat.reduceBneDiff, Int.reduceAdd, Int.cast_ofNat_Int, Int.toNat_natCast, Int.reduceLE, Int.reduceLT, Int.reduceToNat, Int.reduceEq, ↓reduceIte]) (by simp only [go_sem, Nat.reduceAdd, Nat.reduceMul, Nat.reduceSub, Nat.reduceBEq, Nat.reduceEqDiff, Nat.reduceLeDiff, Nat.reduceLT, Nat.reduceBneDiff, Int.reduceAdd, Int.cast_ofNat_Int, Int.toNat_natCast, Int.reduceLE, Int.reduceLT, Int.reduceToNat, Int.reduceEq, ↓reduceIte]) (by simp only [go_sem, Nat.reduceAdd, Nat.reduceMul, Nat.reduceSub, Nat.reduceBEq, Nat.reduceEqDiff, Nat.reduceLeDiff, Nat.reduceLT, Nat.reduceBneDiff, Int.reduceAdd, Int.cast_ofNat_Int, Int.toNat_natCast, Int.reduceLE, Int.reduceLT, Int.reduceToNat, Int.reduceEq, ↓reduceIte]) (by simp only [go_sem, Nat.reduceAdd, Nat.reduceMul, Nat.reduceSub, Nat.reduceBEq, Nat.reduceEqDiff, Nat.reduceLeDiff, Nat.reduceLT, Nat.reduceBneDiff, Int.reduceAdd, Int.cast_ofNat_Int, Int.toNat_natCast, Int.reduceLE, Int.reduceLT, Int.reduceToNat, Int.reduceEq, ↓reduceIte]) ?_
        intro e' G' j3 j6 j15 j16 j17
        rw [hp] at j6
        simp only [go_sem, Nat.reduceAdd, Nat.reduceMul, Nat.reduceSub, Nat.reduceBEq, Nat.reduceEqDiff, Nat.reduceLeDiff, Nat.reduceLT, Nat.reduceBneDiff, Int.reduceAdd, Int.cast_ofNat_Int, Int.toNat_natCast, Int.reduceLE, Int.reduceLT, Int.reduceToNat, Int.reduceEq, ↓reduceIte, i3, i15, i16, i17] at j3 j15 j16 j17
        simp only [go_sem, Nat.reduceAdd, Nat.reduceMul, Nat.reduceSub, Nat.reduceBEq, Nat.reduceEqDiff, Nat.reduceLeDiff, Nat.reduceLT, Nat.reduceBneDiff, Int.reduceAdd, Int.cast_ofNat_Int, Int.toNat_natCast, Int.reduceLE, Int.reduceLT, Int.reduceToNat, Int.reduceEq, ↓reduceIte, j3, j6, j15, j16, j17, a1]
        exact ⟨m, by omega, j + 1, _, by omega, rfl, rfl⟩
    · exact ⟨0, [], by omega, by simp only [go_sem, Nat.reduceAdd, Nat.reduceMul, Nat.reduceSub, Nat.reduceBEq, Nat.reduceEqDiff, Nat.reduceLeDiff, Nat.reduceLT, Nat.reduceBneDiff, Int.reduceAdd, Int.cast_ofNat_Int, Int.toNat_natCast, Int.reduceLE, Int.reduceLT, Int.reduceToNat, Int.reduceEq, ↓reduceIte], by simp only [go_sem, Nat.reduceAdd, Nat.reduceMul, Nat.reduceSub, Nat.reduceBEq, Nat.reduceEqDiff, Nat.reduceLeDiff, Nat.reduceLT, Nat.reduceBneDiff, Int.reduceAdd, Int.cast_ofNat_Int, Int.toNat_natCast, Int.reduceLE, Int.reduceLT, Int.reduceToNat, Int.reduceEq, ↓reduceIte], by simp only [go_sem, Nat.reduceAdd, Nat.reduceMul, Nat.reduceSub, Nat.reduceBEq, Nat.reduceEqDiff, Nat.reduceLeDiff, Nat.reduceLT, Nat.reduceBneDiff, Int.reduceAdd, Int.cast_ofNat_Int, Int.toNat_natCast, Int.reduceLE, Int.reduceLT, Int.reduceToNat, Int.reduceEq, ↓reduceIte], by simp only [go_sem, Nat.reduceAdd, Nat.reduceMul, Nat.reduceSub, Nat.reduceBEq, Nat.reduceEqDiff, Nat.reduceLeDiff, Nat.reduceLT, Nat.reduceBneDiff, Int.reduceAdd, Int.cast_ofNat_Int, Int.toNat_natCast, Int.reduceLE, Int.reduceLT, Int.reduceToNat, Int.reduceEq, ↓reduceIte], by simp⟩
  · have d : decide ((12 : Int) < (l.length : Int)) = true := by rw [decide_eq_true_eq]; omega
    simp only [f7, go_sem, Nat.reduceAdd, Nat.reduceMul, Nat.reduceSub, Nat.reduceBEq, Nat.reduceEqDiff, Nat.reduceLeDiff, Nat.reduceLT, Nat.reduceBneDiff, Int.reduceAdd, Int.cast_ofNat_Int, Int.toNat_natCast, Int.reduceLE, Int.reduceLT, Int.reduceToNat, Int.reduceEq, ↓reduceIte, hlen, gt_iff_lt, d, ev_awake10]
end Go.Proofs.Ytafonoekobkcdaa.C
