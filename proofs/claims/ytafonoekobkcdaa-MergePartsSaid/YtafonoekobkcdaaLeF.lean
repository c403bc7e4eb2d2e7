/- ROUTES THAT SAY SOMETHING NEW: prune.Keep. Conditions: the slice shows the routes. -/
import Derived.Test.YtafonoekobkcdaaLeE
set_option linter.unusedVariables false
set_option linter.unusedSimpArgs false
namespace Go.AM
theorem write_endG (B G : Heap) (cs vs : List AV) (sz lim : Nat) (hl : vs.length = cs.length) (hf : AV.flats vs = true) : Heap.write (B ++ (G ++ [Blk.rw 0 sz cs])) lim (B.length + G.length) 0 0 vs = some (B ++ (G ++ [Blk.rw 0 sz (putCells cs 0 vs)])) := by
  unfold Heap.write
  rw [get_end]
  simp only
  rw [if_pos ⟨trivial, by omega, fun _ => hf⟩]
  rw [← List.append_assoc, List.set_append_right _ _ (by simp)]
  simp
theorem write_endR (B G : Heap) (a b c d : AV) (r : Rt) (lim : Nat) : Heap.write (B ++ (G ++ [Blk.rw 0 4 [a, b, c, d]])) lim (B.length + G.length) 0 0 r.c = some (B ++ (G ++ [Blk.rw 0 4 r.c])) := write_endG B G _ r.c 4 lim rfl rfl
end Go.AM
namespace Go.Proofs.Ytafonoekobkcdaa.C
open Go.AM
variable {hook : Nat → Nat → List AV → Heap → Option (AV × Heap)} {lim : Nat} {H : Heap}
theorem keep_in (op : List Rt) (r : Rt) (B : Heap) (b k : Nat) (v : AV) (hb : ∀ L, Heap.cells (B ++ L) k 0 = some r.c) (hv : Own Rt.c 4 b B v op) (hl : op.length < 1000000) {K : List Frm} {Q : Post} {e : Env}
    (e4 : e 4 = v) (e7 : e 7 = .fn 52 [.ptr k 0 0])
    (g : ∀ (e' : Env) (v' : AV), e' 3 = e 3 → e' 4 = v' → e' 6 = e 6 → e' 8 = e 8 → e' 9 = e 9 → e' 10 = e 10 → Own Rt.c 4 b B v' (op.take (cutN r op op.length)) → (∀ j, Off v j → Off v' j) → ON (PX hook) lim K (.exit 2) e' B Q) :
    GO (PX hook) lim (.loop f31b0) K e B Q := by
  refine GO_loop _ (fun m e' H' => ∃ (n : Nat) (u : AV), n = m ∧ n ≤ op.length ∧ cutN r op op.length = cutN r op n ∧ Own Rt.c 4 b B u (op.take n) ∧ (∀ j, Off v j → Off u j) ∧ e' 4 = u ∧ e' 3 = e 3 ∧ e' 6 = e 6 ∧ e' 7 = .fn 52 [.ptr k 0 0] ∧ e' 8 = e 8 ∧ e' 9 = e 9 ∧ e' 10 = e 10 ∧ H' = B) ?_ op.length _ _ ?_
  · rintro m e' H' ⟨n, u, rfl, hn, hc, hu, ho, i4, i3, i6, i7, i8, i9, i10, rfl⟩
    have hlen := hu.lst.len'
    have hln : (op.take n).length = n := by rw [List.length_take]; omega
    rw [hln] at hlen
    cases n with
    | zero =>
      have d : decide ((0 : Int) < 0) = false := rfl
      rw [cutN] at hc
      simp only [f31b0, go_sem, Nat.reduceAdd, Nat.reduceMul, Nat.reduceSub, Nat.reduceBEq, Nat.reduceEqDiff, Nat.reduceLeDiff, Nat.reduceLT, Nat.reduceBneDiff, Int.reduceAdd, Int.cast_ofNat_Int, Int.toNat_natCast, Int.reduceLE, Int.reduceLT, Int.reduceToNat, Int.reduceEq, ↓reduceIte, i4, i7, hlen, gt_iff_lt, d]
      exact g _ u (by simp only [go_sem, Nat.reduceAdd, Nat.reduceMul, Nat.reduceSub, Nat.reduceBEq, Nat.reduceEqDiff, Nat.reduceLeDiff, Nat.reduceLT, Nat.reduceBneDiff, Int.reduceAdd, Int.cast_ofNat_Int, Int.toNat_natCast, Int.reduceLE, Int.reduceLT, Int.reduceToNat, Int.reduceEq, ↓reduceIte, i3]) (by simp only [go_sem, Nat.reduceAdd, Nat.reduceMul, Nat.reduceSub, Nat.reduceBEq, Nat.reduceEqDiff, Nat.reduceLeDiff, Nat.reduceLT, Nat.reduceBneDiff, Int.reduceAdd, Int.cast_ofNat_Int, Int.toNat_natCast, Int.reduceLE, Int.reduceLT, Int.reduceToNat, Int.reduceEq, ↓reduceIte, i4]) (by simp only [go_sem, Nat.reduceAdd, Nat.reduceMul, Nat.reduceSub, Nat.reduceBEq, Nat.reduceEqDiff, Nat.reduceLeDiff, Nat.reduceLT, Nat.reduceBneDiff, Int.reduceAdd, Int.cast_ofNat_Int, Int.toNat_natCast, Int.reduceLE, Int.reduceLT, Int.reduceToNat, Int.reduceEq, ↓reduceIte, i6]) (by simp only [go_sem, Nat.reduceAdd, Nat.reduceMul, Nat.reduceSub, Nat.reduceBEq, Nat.reduceEqDiff, Nat.reduceLeDiff, Nat.reduceLT, Nat.reduceBneDiff, Int.reduceAdd, Int.cast_ofNat_Int, Int.toNat_natCast, Int.reduceLE, Int.reduceLT, Int.reduceToNat, Int.reduceEq, ↓reduceIte, i8]) (by simp only [go_sem, Nat.reduceAdd, Nat.reduceMul, Nat.reduceSub, Nat.reduceBEq, Nat.reduceEqDiff, Nat.reduceLeDiff, Nat.reduceLT, Nat.reduceBneDiff, Int.reduceAdd, Int.cast_ofNat_Int, Int.toNat_natCast, Int.reduceLE, Int.reduceLT, Int.reduceToNat, Int.reduceEq, ↓reduceIte, i9]) (by simp only [go_sem, Nat.reduceAdd, Nat.reduceMul, Nat.reduceSub, Nat.reduceBEq, Nat.reduceEqDiff, Nat.reduceLeDiff, Nat.reduceLT, Nat.reduceBneDiff, Int.reduceAdd, Int.cast_ofNat_Int, Int.toNat_natCast, Int.reduceLE, Int.reduceLT, Int.reduceToNat, Int.reduceEq, ↓reduceIte, i10]) (by rw [hc]; exact hu) ho
    | succ n =>
      obtain ⟨x, hx, _⟩ := Go.AM.get_of_lt (show n < op.length by omega)
      have hx' : (op.take (n + 1))[n]? = some x := by rw [List.getElem?_take, if_pos (by omega)]; exact hx
      obtain ⟨id, ver, q, E⟩ := hu.lst.at (by omega) Rt.len hx'
      have d : decide ((0 : Int) < ((n + 1 : Nat) : Int)) = true := by rw [decide_eq_true_eq]; omega
      have a1 : IntKind.wrap .i64 (((n + 1 : Nat) : Int) - 1) = (n : Int) := by rw [wrap_i64] <;> omega
      have hk := fun lim => ev_Keep1 (hook := hook) (lim := lim) (H := H') x r k hb
      rw [cutN, hx] at hc
      simp only at hc
      cases hcv : coversP x.a x.n r.a r.n
      · rw [hcv, if_neg (by simp)] at hc
        rw [hcv] at hk
        obtain ⟨u', s1, s2, s3⟩ := hu.cut Rt.len n (by rw [hln]; omega)
        rw [List.take_take, Nat.min_eq_left (by omega)] at s2
        simp only [f31b0, go_sem, Nat.reduceAdd, Nat.reduceMul, Nat.reduceSub, Nat.reduceBEq, Nat.reduceEqDiff, Nat.reduceLeDiff, Nat.reduceLT, Nat.reduceBneDiff, Int.reduceAdd, Int.cast_ofNat_Int, Int.toNat_natCast, Int.reduceLE, Int.reduceLT, Int.reduceToNat, Int.reduceEq, ↓reduceIte, i4, i7, hlen, gt_iff_lt, d, a1, E.adr, E.adr', E.cel, E.cel', E.all, E.all', E.part, E.part', E.part0, E.part0', E.one, E.one', E.one0, E.one0', callvV_fn, hk, s1]
        exact ⟨n, by omega, n, u', rfl, by omega, hc, s2, fun j h => s3 j (ho j h), rfl, i3, i6, i8, i9, i10⟩
      · rw [hcv, if_pos rfl] at hc
        rw [hcv] at hk
        simp only [f31b0, go_sem, Nat.reduceAdd, Nat.reduceMul, Nat.reduceSub, Nat.reduceBEq, Nat.reduceEqDiff, Nat.reduceLeDiff, Nat.reduceLT, Nat.reduceBneDiff, Int.reduceAdd, Int.cast_ofNat_Int, Int.toNat_natCast, Int.reduceLE, Int.reduceLT, Int.reduceToNat, Int.reduceEq, ↓reduceIte, i4, i7, hlen, gt_iff_lt, d, a1, E.adr, E.adr', E.cel, E.cel', E.all, E.all', E.part, E.part', E.part0, E.part0', E.one, E.one', E.one0, E.one0', callvV_fn, hk]
        exact g _ u (by simp only [go_sem, Nat.reduceAdd, Nat.reduceMul, Nat.reduceSub, Nat.reduceBEq, Nat.reduceEqDiff, Nat.reduceLeDiff, Nat.reduceLT, Nat.reduceBneDiff, Int.reduceAdd, Int.cast_ofNat_Int, Int.toNat_natCast, Int.reduceLE, Int.reduceLT, Int.reduceToNat, Int.reduceEq, ↓reduceIte, i3]) (by simp only [go_sem, Nat.reduceAdd, Nat.reduceMul, Nat.reduceSub, Nat.reduceBEq, Nat.reduceEqDiff, Nat.reduceLeDiff, Nat.reduceLT, Nat.reduceBneDiff, Int.reduceAdd, Int.cast_ofNat_Int, Int.toNat_natCast, Int.reduceLE, Int.reduceLT, Int.reduceToNat, Int.reduceEq, ↓reduceIte, i4]) (by simp only [go_sem, Nat.reduceAdd, Nat.reduceMul, Nat.reduceSub, Nat.reduceBEq, Nat.reduceEqDiff, Nat.reduceLeDiff, Nat.reduceLT, Nat.reduceBneDiff, Int.reduceAdd, Int.cast_ofNat_Int, Int.toNat_natCast, Int.reduceLE, Int.reduceLT, Int.reduceToNat, Int.reduceEq, ↓reduceIte, i6]) (by simp only [go_sem, Nat.reduceAdd, Nat.reduceMul, Nat.reduceSub, Nat.reduceBEq, Nat.reduceEqDiff, Nat.reduceLeDiff, Nat.reduceLT, Nat.reduceBneDiff, Int.reduceAdd, Int.cast_ofNat_Int, Int.toNat_natCast, Int.reduceLE, Int.reduceLT, Int.reduceToNat, Int.reduceEq, ↓reduceIte, i8]) (by simp only [go_sem, Nat.reduceAdd, Nat.reduceMul, Nat.reduceSub, Nat.reduceBEq, Nat.reduceEqDiff, Nat.reduceLeDiff, Nat.reduceLT, Nat.reduceBneDiff, Int.reduceAdd, Int.cast_ofNat_Int, Int.toNat_natCast, Int.reduceLE, Int.reduceLT, Int.reduceToNat, Int.reduceEq, ↓reduceIte, i9]) (by simp only [go_sem, Nat.reduceAdd, Nat.reduceMul, Nat.reduceSub, Nat.reduceBEq, Nat.reduceEqDiff, Nat.reduceLeDiff, Nat.reduceLT, Nat.reduceBneDiff, Int.reduceAdd, Int.cast_ofNat_Int, Int.toNat_natCast, Int.reduceLE, Int.reduceLT, Int.reduceToNat, Int.reduceEq, ↓reduceIte, i10]) (by rw [hc]; exact hu) ho
  · exact ⟨op.length, v, rfl, Nat.le_refl _, rfl, by rw [List.take_length]; exact hv, fun j h => h, e4, rfl, rfl, e7, rfl, rfl, rfl, rfl⟩
theorem ev_Keep (v : AV) (l : List Rt) (hv : Lst Rt.c 4 H v l) (hl : l.length < 500000) : ∃ v' L, ev (PX hook) lim 31 [v] H = some (v', H ++ L) ∧ Own Rt.c 4 H.length (H ++ L) v' (keepP l) := by
  suffices hs : EV (PX hook) lim 31 [v] H fun v' H' => ∃ L, H' = H ++ L ∧ Own Rt.c 4 H.length (H ++ L) v' (keepP l) by
    rw [EV_iff] at hs; obtain ⟨v', H', h1, L, rfl, h2⟩ := hs; exact ⟨v', L, h1, h2⟩
  rw [EV_own _ (PF t31) rfl (by decide)]
  have hlen := hv.len'
  simp only [f31, go_sem, Nat.reduceAdd, Nat.reduceMul, Nat.reduceSub, Nat.reduceBEq, Nat.reduceEqDiff, Nat.reduceLeDiff, Nat.reduceLT, Nat.reduceBneDiff, Int.reduceAdd, Int.cast_ofNat_Int, Int.toNat_natCast, Int.reduceLE, Int.reduceLT, Int.reduceToNat, Int.reduceEq, ↓reduceIte, hlen]
  refine GO_loop _ (fun m e H' => ∃ (j : Nat) (G : Heap) (vo vp : AV) (out op : List Rt), j + m = l.length ∧ (l.take j).foldl keepS ([], []) = (out, op) ∧ out.length ≤ j ∧ op.length ≤ j ∧ Own Rt.c 4 H.length (H ++ G) vo out ∧ Own Rt.c 4 H.length (H ++ G) vp op ∧ (∀ id ver o n q, vo = .sl id ver o n q → Off vp id) ∧
    e 3 = vo ∧ e 4 = vp ∧ e 8 = v ∧ e 9 = .int .i64 (l.length : Int) ∧ e 10 = .int .i64 (j : Int) ∧ H' = H ++ G) ?_ l.length _ _ ?_
  · rintro m e H' ⟨j, G, vo, vp, out, op, hj, hfold, ho1, ho2, hout, hop, hdis, i3, i4, i8, i9, i10, rfl⟩
    cases m with
    | zero =>
      have hj' : j = l.length := by omega
      subst hj'
      rw [List.take_length] at hfold
      have hkeep : keepP l = out := by unfold keepP; rw [hfold]
      obtain ⟨v', L', hfin, hown⟩ := hout.finish
      simp only [f31b1, go_sem, Nat.reduceAdd, Nat.reduceMul, Nat.reduceSub, Nat.reduceBEq, Nat.reduceEqDiff, Nat.reduceLeDiff, Nat.reduceLT, Nat.reduceBneDiff, Int.reduceAdd, Int.cast_ofNat_Int, Int.toNat_natCast, Int.reduceLE, Int.reduceLT, Int.reduceToNat, Int.reduceEq, ↓reduceIte, i3, i4, i8, i9, i10, lt_false, hfin]
      exact ⟨L', rfl, by rw [hkeep]; exact hown⟩
    | succ m =>
      obtain ⟨r, hr, _⟩ := Go.AM.get_of_lt (show j < l.length by omega)
      obtain ⟨id, ver, q, E⟩ := hv.at (by omega) Rt.len hr
      have d := lt_true (show j < l.length by omega)
      have a1 := wrap_succ (show j < 1000000 by omega)
      have hfold' : (l.take (j + 1)).foldl keepS ([], []) = keepS (out, op) r := by rw [Go.AM.take_succ_of hr, List.foldl_append, hfold]; rfl
      have hb : ∀ L, Heap.cells ((H ++ (G ++ [Blk.rw 0 4 r.c])) ++ L) (H.length + G.length) 0 = some r.c := by
        intro L
        have := cells_at (H ++ G) L (Blk.rw 0 4 r.c) (H.length + G.length) (by simp)
        simpa [Blk.ver, Blk.cells] using this
      have hop1 : Own Rt.c 4 H.length (H ++ (G ++ [Blk.rw 0 4 r.c])) vp op := by rw [← List.append_assoc]; exact hop.more _
      have hout1 : Own Rt.c 4 H.length (H ++ (G ++ [Blk.rw 0 4 r.c])) vo out := by rw [← List.append_assoc]; exact hout.more _
      have hoff : Off vp (H.length + G.length) := by
        intro id' ver' o n q' hvp h
        have := hop.lt id' ver' o n q' hvp
        simp at this; omega
      simp only [f31b1, go_sem, Nat.reduceAdd, Nat.reduceMul, Nat.reduceSub, Nat.reduceBEq, Nat.reduceEqDiff, Nat.reduceLeDiff, Nat.reduceLT, Nat.reduceBneDiff, Int.reduceAdd, Int.cast_ofNat_Int, Int.toNat_natCast, Int.reduceLE, Int.reduceLT, Int.reduceToNat, Int.reduceEq, ↓reduceIte, i3, i4, i8, i9, i10, d, E.adr, E.adr', E.cel, E.cel', E.all, E.all', E.part, E.part', E.part0, E.part0', E.one, E.one', E.one0, E.one0', write_endR]
      refine keep_in op r _ H.length (H.length + G.length) vp hb hop1 (by omega) (by simp only [go_sem, Nat.reduceAdd, Nat.reduceMul, Nat.reduceSub, Nat.reduceBEq, Nat.reduceEqDiff, Nat.reduceLeDiff, Nat.reduceLT, Nat.reduceBneDiff, Int.reduceAdd, Int.cast_ofNat_Int, Int.toNat_natCast, Int.reduceLE, Int.reduceLT, Int.reduceToNat, Int.reduceEq, ↓reduceIte, i4]) (by simp only [go_sem, Nat.reduceAdd, Nat.reduceMul, Nat.reduceSub, Nat.reduceBEq, Nat.reduceEqDiff, Nat.reduceLeDiff, Nat.reduceLT, Nat.reduceBneDiff, Int.reduceAdd, Int.cast_ofNat_Int, Int.toNat_natCast, Int.reduceLE, Int.reduceLT, Int.reduceToNat, Int.reduceEq, ↓reduceIte]) ?_
      intro e' vq k3 k4 k6 k8 k9 k10 hq hqo
      simp only [go_sem, Nat.reduceAdd, Nat.reduceMul, Nat.reduceSub, Nat.reduceBEq, Nat.reduceEqDiff, Nat.reduceLeDiff, Nat.reduceLT, Nat.reduceBneDiff, Int.reduceAdd, Int.cast_ofNat_Int, Int.toNat_natCast, Int.reduceLE, Int.reduceLT, Int.reduceToNat, Int.reduceEq, ↓reduceIte, i3, i8, i9, i10] at k3 k6 k8 k9 k10
      generalize hopq : op.take (cutN r op op.length) = oq at *
      have hql : oq.length ≤ j := by rw [← hopq, List.length_take]; omega
      have hqn := hq.lst.len'
      have hdq : ∀ id ver o n q, vo = .sl id ver o n q → Off vq id := fun id ver o n q h => hqo id (hdis id ver o n q h)
      have hbx : loadV (H ++ (G ++ [Blk.rw 0 4 r.c])) false 1 (.ptr (H.length + G.length) 0 3) = some (.int .i64 r.x) := by
        have := hb []
        rw [List.append_nil] at this
        simp only [loadV, this, rdCells, Bool.false_eq_true, if_false, Rt.get3]
      have hcx : (Heap.cells (H ++ (G ++ [Blk.rw 0 4 r.c])) (H.length + G.length) 0).isSome = true := by
        have := hb []
        rw [List.append_nil] at this
        rw [this]; rfl
      -- what is put at both rows' ends
      have hbx6 : loadV (H ++ (G ++ [Blk.rw 0 4 r.c])) true 4 (.ptr (H.length + G.length) 0 0) = some (.agg r.c) := by
        have := hb []
        rw [List.append_nil] at this
        simp only [loadV, this, rdCells, if_true]
        simp [Rt.c]
      have hq2 : Own Rt.c 4 H.length (H ++ (G ++ [Blk.rw 0 4 r.c, .rw 0 4 r.c])) vq oq := by
        have := hq.more [.rw 0 4 r.c]
        simpa only [List.append_assoc, List.cons_append, List.nil_append] using this
      have hnew : (H ++ (G ++ [Blk.rw 0 4 r.c, .rw 0 4 r.c]))[H.length + (G.length + 1)]? = some (.rw 0 4 r.c) := by
        rw [List.getElem?_append_right (by omega), Nat.add_sub_cancel_left, List.getElem?_append_right (by omega), show G.length + 1 - G.length = 1 by omega]; rfl
      obtain ⟨vq', H2, hp1, hq3, hlen2, hfr2, hof2, htk2⟩ := hq2.push Rt.len Rt.fl (bytes := 32) (lim := H.length) r (by simp) (Nat.le_refl _) hnew (by omega)
      obtain ⟨G2, rfl⟩ : ∃ G2, H2 = H ++ G2 := ⟨H2.drop H.length, by
        have h1 := List.take_append_drop H.length H2
        rw [htk2, List.take_append_of_le_length (Nat.le_refl _), List.take_length] at h1
        exact h1.symm⟩
      have hk6 : (H ++ G2)[H.length + G.length]? = some (.rw 0 4 r.c) := by
        rw [hfr2 _ (by simp) (hqo _ hoff), List.getElem?_append_right (by omega), Nat.add_sub_cancel_left, List.getElem?_append_right (by omega), Nat.sub_self]; rfl
      have hbx7 : loadV (H ++ G2) true 4 (.ptr (H.length + G.length) 0 0) = some (.agg r.c) := by
        simp [loadV, Heap.cells, hk6, Blk.ver, Blk.cells, rdCells, Rt.c]
      have hout2 : Own Rt.c 4 H.length (H ++ G2) vo out := hout1.keepH fun id' ver' o n q' hvo => by
        have hlt := hout1.lt id' ver' o n q' hvo
        rw [hfr2 id' (by simp at hlt ⊢; omega) (hdq id' ver' o n q' hvo)]
        have : (H ++ (G ++ [Blk.rw 0 4 r.c, .rw 0 4 r.c])) = (H ++ (G ++ [Blk.rw 0 4 r.c])) ++ [.rw 0 4 r.c] := by simp
        rw [this, List.getElem?_append_left hlt]
      have hout3 : Own Rt.c 4 H.length (H ++ (G2 ++ [.rw 0 4 r.c])) vo out := by rw [← List.append_assoc]; exact hout2.more _
      have hnew3 : (H ++ (G2 ++ [Blk.rw 0 4 r.c]))[H.length + G2.length]? = some (.rw 0 4 r.c) := get_end H G2 _
      obtain ⟨vo', H3, hp2, ho3, hlen3, hfr3, hof3, htk3⟩ := hout3.push Rt.len Rt.fl (bytes := 32) (lim := H.length) r (by simp) (Nat.le_refl _) hnew3 (by omega)
      obtain ⟨G3, rfl⟩ : ∃ G3, H3 = H ++ G3 := ⟨H3.drop H.length, by
        have h1 := List.take_append_drop H.length H3
        rw [htk3, List.take_append_of_le_length (Nat.le_refl _), List.take_length] at h1
        exact h1.symm⟩
      have hdis2 : ∀ id ver o n q, vq' = .sl id ver o n q → Off vo id := by
        intro id' ver' o n q' h id2 ver2 o2 n2 q2 hvo heq
        subst heq
        have hlt := hout1.lt id2 ver2 o2 n2 q2 hvo
        have := hof2 id2 (by simp at hlt ⊢; omega) (hdq id2 ver2 o2 n2 q2 hvo)
        exact this id2 ver' o n q' h rfl
      have hq4 : Own Rt.c 4 H.length (H ++ G3) vq' (oq ++ [r]) := hq3.keepH fun id' ver' o n q' hvq => by
        have hlt := hq3.lt id' ver' o n q' hvq
        rw [hfr3 id' (by simp at hlt ⊢; omega) (hdis2 id' ver' o n q' hvq), ← List.append_assoc, List.getElem?_append_left hlt]
      have hdis3 : ∀ id ver o n q, vo' = .sl id ver o n q → Off vq' id := by
        intro id' ver' o n q' h id2 ver2 o2 n2 q2 hvq heq
        subst heq
        have hlt := hq3.lt id2 ver2 o2 n2 q2 hvq
        exact hof3 id2 (by simp at hlt ⊢; omega) (hdis2 id2 ver2 o2 n2 q2 hvq) id2 ver' o n q' h rfl
      have keepput : ((oq.getLast?.map fun x => x.x == r.x) ≠ some true) → keepS (out, op) r = (out ++ [r], oq ++ [r]) := by
        intro h
        unfold keepS
        simp only [hopq]
        rw [if_neg h]
      rcases List.eq_nil_or_concat oq with hnil | ⟨oq', x, hcat⟩
      · have hln0 : ((oq.length : Nat) : Int) = 0 := by rw [hnil]; rfl
        rw [hln0] at hqn
        have d2 : decide ((0 : Int) < 0) = false := rfl
        have hks := keepput (by rw [hnil]; simp)
        simp only [go_sem, Nat.reduceAdd, Nat.reduceMul, Nat.reduceSub, Nat.reduceBEq, Nat.reduceEqDiff, Nat.reduceLeDiff, Nat.reduceLT, Nat.reduceBneDiff, Int.reduceAdd, Int.cast_ofNat_Int, Int.toNat_natCast, Int.reduceLE, Int.reduceLT, Int.reduceToNat, Int.reduceEq, ↓reduceIte, k3, k4, k6, k8, k9, k10, hqn, gt_iff_lt, d2, hbx6, hp1, hbx7, hp2, a1]
        exact ⟨m, by omega, j + 1, G3, vo', vq', out ++ [r], oq ++ [r], by omega, by rw [hfold', hks], by simp; omega, by simp; omega, ho3, hq4, hdis3, rfl, rfl, rfl, rfl⟩
      · have hlx : oq.length = oq'.length + 1 := by rw [hcat]; simp
        have hgx : oq[oq'.length]? = some x := by rw [hcat]; simp
        have hlast : oq.getLast? = some x := by rw [hcat]; simp
        obtain ⟨jd, wer, z, F⟩ := hq.lst.at (by omega) Rt.len hgx
        have d2 : decide ((0 : Int) < (oq.length : Int)) = true := by rw [decide_eq_true_eq]; omega
        have a2 : IntKind.wrap .i64 ((oq.length : Int) - 1) = (oq'.length : Int) := by rw [wrap_i64] <;> omega
        have f1 := F.adr'
        have f2 := F.cel'
        have f3 : loadV (H ++ (G ++ [Blk.rw 0 4 r.c])) false 1 (.ptr jd wer (z + 3)) = some (.int .i64 x.x) := by rw [F.one' 3 (by omega)]; rfl
        cases hxr : (x.x == r.x)
        · have hks := keepput (by rw [hlast]; simp only [Option.map_some, hxr]; simp)
          simp only [go_sem, Nat.reduceAdd, Nat.reduceMul, Nat.reduceSub, Nat.reduceBEq, Nat.reduceEqDiff, Nat.reduceLeDiff, Nat.reduceLT, Nat.reduceBneDiff, Int.reduceAdd, Int.cast_ofNat_Int, Int.toNat_natCast, Int.reduceLE, Int.reduceLT, Int.reduceToNat, Int.reduceEq, ↓reduceIte, k3, k4, k6, k8, k9, k10, hqn, gt_iff_lt, d2, a2, f1, f2, f3, hcx, hbx, hxr, hbx6, hp1, hbx7, hp2, a1]
          exact ⟨m, by omega, j + 1, G3, vo', vq', out ++ [r], oq ++ [r], by omega, by rw [hfold', hks], by simp; omega, by simp; omega, ho3, hq4, hdis3, rfl, rfl, rfl, rfl⟩
        · have hks : keepS (out, op) r = (out, oq) := by
            unfold keepS
            simp only [hopq]
            rw [if_pos (by rw [hlast]; simp only [Option.map_some, hxr])]
          simp only [go_sem, Nat.reduceAdd, Nat.reduceMul, Nat.reduceSub, Nat.reduceBEq, Nat.reduceEqDiff, Nat.reduceLeDiff, Nat.reduceLT, Nat.reduceBneDiff, Int.reduceAdd, Int.cast_ofNat_Int, Int.toNat_natCast, Int.reduceLE, Int.reduceLT, Int.reduceToNat, Int.reduceEq, ↓reduceIte, k3, k4, k6, k8, k9, k10, hqn, gt_iff_lt, d2, a2, f1, f2, f3, hcx, hbx, hxr, a1]
          exact ⟨m, by omega, j + 1, _, vo, vq, out, oq, by omega, by rw [hfold', hks], by omega, by omega, hout1, hq, hdq, rfl, rfl, rfl, rfl⟩
  · exact ⟨0, [], .nils, .nils, [], [], by omega, rfl, by simp, by simp, Own.nil, Own.nil, fun id ver o n q h => (by cases h), by simp only [go_sem, Nat.reduceAdd, Nat.reduceMul, Nat.reduceSub, Nat.reduceBEq, Nat.reduceEqDiff, Nat.reduceLeDiff, Nat.reduceLT, Nat.reduceBneDiff, Int.reduceAdd, Int.cast_ofNat_Int, Int.toNat_natCast, Int.reduceLE, Int.reduceLT, Int.reduceToNat, Int.reduceEq, ↓reduceIte], by simp only [go_sem, Nat.reduceAdd, Nat.reduceMul, Nat.reduceSub, Nat.reduceBEq, Nat.reduceEqDiff, Nat.reduceLeDiff, Nat.reduceLT, Nat.reduceBneDiff, Int.reduceAdd, Int.cast_ofNat_Int, Int.toNat_natCast, Int.reduceLE, Int.reduceLT, Int.reduceToNat, Int.reduceEq, ↓reduceIte], by simp only [go_sem, Nat.reduceAdd, Nat.reduceMul, Nat.reduceSub, Nat.reduceBEq, Nat.reduceEqDiff, Nat.reduceLeDiff, Nat.reduceLT, Nat.reduceBneDiff, Int.reduceAdd, Int.cast_ofNat_Int, Int.toNat_natCast, Int.reduceLE, Int.reduceLT, Int.reduceToNat, Int.reduceEq, ↓reduceIte], by simp only [go_sem, Nat.reduceAdd, Nat.reduceMul, Nat.reduceSub, Nat.reduceBEq, Nat.reduceEqDiff, Nat.reduceLeDiff, Nat.reduceLT, Nat.reduceBneDiff, Int.reduceAdd, Int.cast_ofNat_Int, Int.toNat_natCast, Int.reduceLE, Int.reduceLT, Int.reduceToNat, Int.reduceEq, ↓reduceIte], by simp only [go_sem, Nat.reduceAdd, Nat.reduceMul, Nat.reduceSub, Nat.reduceBEq, Nat.reduceEqDiff, Nat.reduceLeDiff, Nat.reduceLT, Nat.reduceBneDiff, Int.reduceAdd, Int.cast_ofNat_Int, Int.toNat_natCast, Int.reduceLE, Int.reduceLT, Int.reduceToNat, Int.reduceEq, ↓reduceIte], by simp⟩
end Go.Proofs.Ytafonoekobkcdaa.C
