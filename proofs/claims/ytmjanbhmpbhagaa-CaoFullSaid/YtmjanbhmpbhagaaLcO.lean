/- THE ORDER OF CHAINS, the document's: what each function comes to. Conditions: the slices show what is told. -/
import Derived.Test.YtmjanbhmpbhagaaLcN
set_option linter.unusedVariables false
set_option linter.unusedSimpArgs false
namespace Go.AM
theorem frees_split (l : List Sl) {i j k : Nat} (h1 : i ≤ j) (h2 : j ≤ k) : frees l i k = frees l i j ++ frees l j k := by
  unfold frees
  rw [← List.filter_append]
  congr 1
  rw [show k - i = (j - i) + (k - j) by omega, ← List.range'_append_1]
  rw [show i + (j - i) = j by omega]
theorem frees_one {l : List Sl} {i : Nat} {s : Sl} (hs : l[i]? = some s) : frees l i (i + 1) = if s.ok then [] else [i] := by
  rw [frees_snoc (Nat.le_refl _) hs, frees_self]; simp
end Go.AM
namespace Go.Proofs.Ytmjanbhmpbhagaa.C
open Go.AM
variable {hook : Nat → Nat → List AV → Heap → Option (AV × Heap)} {lim : Nat} {H : Heap}
theorem ev_rGap (v : AV) (l : List Sl) (x : En) (hv : Lst Sl.c 7 H v l) (hl : l.length < 1000000) : ev (PX hook) lim 34 [v, .agg x.c] H = some (.tup [.int .i64 (hiN l l.length x : Int), .int .i64 (lowN l 0 x : Int)], H) := by
  refine ev_own _ (PF t34) rfl (by decide) ?_
  have hlen := hv.len
  simp only [f34, go_sem, Nat.reduceAdd, Nat.reduceMul, Nat.reduceSub, Nat.reduceBEq, Nat.reduceEqDiff, Nat.reduceLeDiff, Nat.reduceLT, Nat.reduceBneDiff, Int.reduceAdd, Int.cast_ofNat_Int, Int.toNat_natCast, Int.reduceLE, Int.reduceLT, Int.reduceToNat, Int.reduceEq, ↓reduceIte, hlen]
  refine GO_loop _ (fun m e H' => ∃ i : Nat, i + m = l.length ∧ e 6 = .int .i64 (lastN (fun s => s.ok && s.e.above x) l i : Int) ∧ e 0 = v ∧ e 3 = .ptr H.length 0 0 ∧ e 7 = .int .i64 (l.length : Int) ∧ e 8 = .int .i64 (i : Int) ∧ H' = H ++ [Blk.rw 0 6 x.c]) ?_ l.length _ _ ?_
  · rintro m e H' ⟨i, hi, i6, i0, i3, i7, i8, rfl⟩
    cases m with
    | zero =>
      have hi' : i = l.length := by omega
      subst hi'
      have a0 : IntKind.wrap .i64 ((l.length : Int) - 1) = (l.length : Int) - 1 := by rw [wrap_i64] <;> omega
      simp only [f34b0, go_sem, Nat.reduceAdd, Nat.reduceMul, Nat.reduceSub, Nat.reduceBEq, Nat.reduceEqDiff, Nat.reduceLeDiff, Nat.reduceLT, Nat.reduceBneDiff, Int.reduceAdd, Int.cast_ofNat_Int, Int.toNat_natCast, Int.reduceLE, Int.reduceLT, Int.reduceToNat, Int.reduceEq, ↓reduceIte, i0, i3, i6, i7, i8, hlen, lt_false, a0]
      refine GO_loop _ (fun n e' H'' => ∃ k : Nat, k = n ∧ k ≤ l.length ∧ e' 7 = .int .i64 (firstN (fun s => s.ok && x.above s.e) l (l.length - k) k : Int) ∧ e' 6 = .int .i64 (lastN (fun s => s.ok && s.e.above x) l l.length : Int) ∧ e' 0 = v ∧ e' 3 = .ptr H.length 0 0 ∧ e' 9 = .int .i64 ((k : Int) - 1) ∧ H'' = H ++ [Blk.rw 0 6 x.c]) ?_ l.length _ _ ?_
      · rintro n e' H'' ⟨k, rfl, hk, j7, j6, j0, j3, j9, rfl⟩
        cases k with
        | zero =>
          have d : decide ((0 : Int) ≤ -1) = false := by decide
          have e1 : ((0 : Nat) : Int) - 1 = -1 := rfl
          rw [e1] at j9
          rw [Nat.sub_zero] at j7
          simp only [f34b1, go_sem, Nat.reduceAdd, Nat.reduceMul, Nat.reduceSub, Nat.reduceBEq, Nat.reduceEqDiff, Nat.reduceLeDiff, Nat.reduceLT, Nat.reduceBneDiff, Int.reduceAdd, Int.cast_ofNat_Int, Int.toNat_natCast, Int.reduceLE, Int.reduceLT, Int.reduceToNat, Int.reduceEq, ↓reduceIte, j0, j3, j6, j7, j9, ge_iff_le, d, hiN, lowN, Nat.sub_zero]
        | succ k =>
          obtain ⟨s, hs, _⟩ := get_of_lt (show k < l.length by omega)
          obtain ⟨id, ver, q, E⟩ := hv.at (by omega) Sl.len hs
          have e1 : ((k + 1 : Nat) : Int) - 1 = (k : Int) := by omega
          rw [e1] at j9
          have d : decide ((0 : Int) ≤ (k : Int)) = true := by rw [decide_eq_true_eq]; omega
          have a1 : IntKind.wrap .i64 ((k : Int) - 1) = (k : Int) - 1 := by rw [wrap_i64] <;> omega
          have hf : firstN (fun s => s.ok && x.above s.e) l (l.length - k) k = if (s.ok && x.above s.e) = true then k else firstN (fun s => s.ok && x.above s.e) l (l.length - (k + 1)) (k + 1) := by
            rw [show l.length - k = (l.length - (k + 1)) + 1 by omega, firstN, hs]
          cases b1 : s.ok
          · rw [b1, Bool.false_and, if_neg (by simp)] at hf
            simp only [f34b1, go_sem, Nat.reduceAdd, Nat.reduceMul, Nat.reduceSub, Nat.reduceBEq, Nat.reduceEqDiff, Nat.reduceLeDiff, Nat.reduceLT, Nat.reduceBneDiff, Int.reduceAdd, Int.cast_ofNat_Int, Int.toNat_natCast, Int.reduceLE, Int.reduceLT, Int.reduceToNat, Int.reduceEq, ↓reduceIte, j0, j3, j6, j7, j9, ge_iff_le, d, a1, E.adr, E.adr', E.cel, E.cel', E.all, E.all', E.part, E.part', E.part0, E.part0', E.one, E.one', E.one0, E.one0', b1]
            exact ⟨k, by omega, k, rfl, by omega, by rw [hf], rfl⟩
          · cases b2 : x.above s.e
            · rw [b1, b2, if_neg (by simp)] at hf
              simp only [f34b1, go_sem, Nat.reduceAdd, Nat.reduceMul, Nat.reduceSub, Nat.reduceBEq, Nat.reduceEqDiff, Nat.reduceLeDiff, Nat.reduceLT, Nat.reduceBneDiff, Int.reduceAdd, Int.cast_ofNat_Int, Int.toNat_natCast, Int.reduceLE, Int.reduceLT, Int.reduceToNat, Int.reduceEq, ↓reduceIte, j0, j3, j6, j7, j9, ge_iff_le, d, a1, E.adr, E.adr', E.cel, E.cel', E.all, E.all', E.part, E.part', E.part0, E.part0', E.one, E.one', E.one0, E.one0', b1, ev_rAbove, b2]
              exact ⟨k, by omega, k, rfl, by omega, by rw [hf], rfl⟩
            · rw [b1, b2, if_pos (by simp)] at hf
              simp only [f34b1, go_sem, Nat.reduceAdd, Nat.reduceMul, Nat.reduceSub, Nat.reduceBEq, Nat.reduceEqDiff, Nat.reduceLeDiff, Nat.reduceLT, Nat.reduceBneDiff, Int.reduceAdd, Int.cast_ofNat_Int, Int.toNat_natCast, Int.reduceLE, Int.reduceLT, Int.reduceToNat, Int.reduceEq, ↓reduceIte, j0, j3, j6, j7, j9, ge_iff_le, d, a1, E.adr, E.adr', E.cel, E.cel', E.all, E.all', E.part, E.part', E.part0, E.part0', E.one, E.one', E.one0, E.one0', b1, ev_rAbove, b2]
              exact ⟨k, by omega, k, rfl, by omega, by rw [hf], rfl⟩
      · refine ⟨l.length, rfl, Nat.le_refl _, ?_, by simp only [go_sem, Nat.reduceAdd, Nat.reduceMul, Nat.reduceSub, Nat.reduceBEq, Nat.reduceEqDiff, Nat.reduceLeDiff, Nat.reduceLT, Nat.reduceBneDiff, Int.reduceAdd, Int.cast_ofNat_Int, Int.toNat_natCast, Int.reduceLE, Int.reduceLT, Int.reduceToNat, Int.reduceEq, ↓reduceIte, i6], by simp only [go_sem, Nat.reduceAdd, Nat.reduceMul, Nat.reduceSub, Nat.reduceBEq, Nat.reduceEqDiff, Nat.reduceLeDiff, Nat.reduceLT, Nat.reduceBneDiff, Int.reduceAdd, Int.cast_ofNat_Int, Int.toNat_natCast, Int.reduceLE, Int.reduceLT, Int.reduceToNat, Int.reduceEq, ↓reduceIte, i0], by simp only [go_sem, Nat.reduceAdd, Nat.reduceMul, Nat.reduceSub, Nat.reduceBEq, Nat.reduceEqDiff, Nat.reduceLeDiff, Nat.reduceLT, Nat.reduceBneDiff, Int.reduceAdd, Int.cast_ofNat_Int, Int.toNat_natCast, Int.reduceLE, Int.reduceLT, Int.reduceToNat, Int.reduceEq, ↓reduceIte, i3], by simp only [go_sem, Nat.reduceAdd, Nat.reduceMul, Nat.reduceSub, Nat.reduceBEq, Nat.reduceEqDiff, Nat.reduceLeDiff, Nat.reduceLT, Nat.reduceBneDiff, Int.reduceAdd, Int.cast_ofNat_Int, Int.toNat_natCast, Int.reduceLE, Int.reduceLT, Int.reduceToNat, Int.reduceEq, ↓reduceIte], rfl⟩
        simp only [go_sem, Nat.reduceAdd, Nat.reduceMul, Nat.reduceSub, Nat.reduceBEq, Nat.reduceEqDiff, Nat.reduceLeDiff, Nat.reduceLT, Nat.reduceBneDiff, Int.reduceAdd, Int.cast_ofNat_Int, Int.toNat_natCast, Int.reduceLE, Int.reduceLT, Int.reduceToNat, Int.reduceEq, ↓reduceIte, i7, Nat.sub_self, firstN]
    | succ m =>
      obtain ⟨s, hs, _⟩ := get_of_lt (show i < l.length by omega)
      obtain ⟨id, ver, q, E⟩ := hv.at (by omega) Sl.len hs
      have d := lt_true (show i < l.length by omega)
      have a1 := wrap_succ (show i < 1000000 by omega)
      have hf : lastN (fun s => s.ok && s.e.above x) l (i + 1) = if (s.ok && s.e.above x) = true then i + 1 else lastN (fun s => s.ok && s.e.above x) l i := by rw [lastN, hs]
      cases b1 : s.ok
      · rw [b1, Bool.false_and, if_neg (by simp)] at hf
        simp only [f34b0, go_sem, Nat.reduceAdd, Nat.reduceMul, Nat.reduceSub, Nat.reduceBEq, Nat.reduceEqDiff, Nat.reduceLeDiff, Nat.reduceLT, Nat.reduceBneDiff, Int.reduceAdd, Int.cast_ofNat_Int, Int.toNat_natCast, Int.reduceLE, Int.reduceLT, Int.reduceToNat, Int.reduceEq, ↓reduceIte, i0, i3, i6, i7, i8, hlen, d, a1, E.adr, E.adr', E.cel, E.cel', E.all, E.all', E.part, E.part', E.part0, E.part0', E.one, E.one', E.one0, E.one0', b1]
        exact ⟨m, by omega, i + 1, by omega, by rw [hf], rfl⟩
      · cases b2 : s.e.above x
        · rw [b1, b2, if_neg (by simp)] at hf
          simp only [f34b0, go_sem, Nat.reduceAdd, Nat.reduceMul, Nat.reduceSub, Nat.reduceBEq, Nat.reduceEqDiff, Nat.reduceLeDiff, Nat.reduceLT, Nat.reduceBneDiff, Int.reduceAdd, Int.cast_ofNat_Int, Int.toNat_natCast, Int.reduceLE, Int.reduceLT, Int.reduceToNat, Int.reduceEq, ↓reduceIte, i0, i3, i6, i7, i8, hlen, d, a1, E.adr, E.adr', E.cel, E.cel', E.all, E.all', E.part, E.part', E.part0, E.part0', E.one, E.one', E.one0, E.one0', b1, ev_rAbove, b2]
          exact ⟨m, by omega, i + 1, by omega, by rw [hf], rfl⟩
        · rw [b1, b2, if_pos (by simp)] at hf
          simp only [f34b0, go_sem, Nat.reduceAdd, Nat.reduceMul, Nat.reduceSub, Nat.reduceBEq, Nat.reduceEqDiff, Nat.reduceLeDiff, Nat.reduceLT, Nat.reduceBneDiff, Int.reduceAdd, Int.cast_ofNat_Int, Int.toNat_natCast, Int.reduceLE, Int.reduceLT, Int.reduceToNat, Int.reduceEq, ↓reduceIte, i0, i3, i6, i7, i8, hlen, d, a1, E.adr, E.adr', E.cel, E.cel', E.all, E.all', E.part, E.part', E.part0, E.part0', E.one, E.one', E.one0, E.one0', b1, ev_rAbove, b2]
          exact ⟨m, by omega, i + 1, by omega, by rw [hf], rfl⟩
  · exact ⟨0, by omega, by simp only [go_sem, Nat.reduceAdd, Nat.reduceMul, Nat.reduceSub, Nat.reduceBEq, Nat.reduceEqDiff, Nat.reduceLeDiff, Nat.reduceLT, Nat.reduceBneDiff, Int.reduceAdd, Int.cast_ofNat_Int, Int.toNat_natCast, Int.reduceLE, Int.reduceLT, Int.reduceToNat, Int.reduceEq, ↓reduceIte]; rfl, by simp only [go_sem, Nat.reduceAdd, Nat.reduceMul, Nat.reduceSub, Nat.reduceBEq, Nat.reduceEqDiff, Nat.reduceLeDiff, Nat.reduceLT, Nat.reduceBneDiff, Int.reduceAdd, Int.cast_ofNat_Int, Int.toNat_natCast, Int.reduceLE, Int.reduceLT, Int.reduceToNat, Int.reduceEq, ↓reduceIte], by simp only [go_sem, Nat.reduceAdd, Nat.reduceMul, Nat.reduceSub, Nat.reduceBEq, Nat.reduceEqDiff, Nat.reduceLeDiff, Nat.reduceLT, Nat.reduceBneDiff, Int.reduceAdd, Int.cast_ofNat_Int, Int.toNat_natCast, Int.reduceLE, Int.reduceLT, Int.reduceToNat, Int.reduceEq, ↓reduceIte], by simp only [go_sem, Nat.reduceAdd, Nat.reduceMul, Nat.reduceSub, Nat.reduceBEq, Nat.reduceEqDiff, Nat.reduceLeDiff, Nat.reduceLT, Nat.reduceBneDiff, Int.reduceAdd, Int.cast_ofNat_Int, Int.toNat_natCast, Int.reduceLE, Int.reduceLT, Int.reduceToNat, Int.reduceEq, ↓reduceIte], by simp only [go_sem, Nat.reduceAdd, Nat.reduceMul, Nat.reduceSub, Nat.reduceBEq, Nat.reduceEqDiff, Nat.reduceLeDiff, Nat.reduceLT, Nat.reduceBneDiff, Int.reduceAdd, Int.cast_ofNat_Int, Int.toNat_natCast, Int.reduceLE, Int.reduceLT, Int.reduceToNat, Int.reduceEq, ↓reduceIte], rfl⟩
theorem ev_rend (v w : AV) (l : List Sl) (way : List Nat) (free : Nat) (x : En) (hv : Lst Sl.c 7 H v l) (hw : Lst nC 1 H w way) (hin : ∀ a ∈ way, a < l.length) (hl : way.length < 1000000) :
    ∃ v' L, ev (PX hook) lim 68 [v, w, .int .i64 (free : Int), .agg x.c] H = some (v', H ++ L) ∧ Gr Wr.c 8 H L v' (writesW l x (way ++ [free])) := by
  suffices hs : EV (PX hook) lim 68 [v, w, .int .i64 (free : Int), .agg x.c] H fun v' H' => ∃ L, H' = H ++ L ∧ Gr Wr.c 8 H L v' (writesW l x (way ++ [free])) by
    rw [EV_iff] at hs; obtain ⟨v', H', h1, L, rfl, h2⟩ := hs; exact ⟨v', L, h1, h2⟩
  rw [EV_own _ (PF t68) rfl (by decide)]
  have hlen := hw.len
  have a0 : IntKind.wrap .i64 ((way.length : Int) - 1) = (way.length : Int) - 1 := by rw [wrap_i64] <;> omega
  simp only [f68, go_sem, Nat.reduceAdd, Nat.reduceMul, Nat.reduceSub, Nat.reduceBEq, Nat.reduceEqDiff, Nat.reduceLeDiff, Nat.reduceLT, Nat.reduceBneDiff, Int.reduceAdd, Int.cast_ofNat_Int, Int.toNat_natCast, Int.reduceLE, Int.reduceLT, Int.reduceToNat, Int.reduceEq, ↓reduceIte, hlen, a0]
  refine GO_loop _ (fun m e H' => ∃ (G : Heap) (acc : List Wr) (i : Nat), m ≤ way.length ∧ acc.length + m ≤ way.length ∧ Gr Wr.c 8 (H ++ [Blk.rw 0 6 x.c]) G (e 9) acc ∧ pairsW l (way ++ [free]) = acc ++ pairsW l (way.take m ++ [i]) ∧ (way ++ [free]).head? = (way.take m ++ [i]).head? ∧ e 0 = v ∧ e 1 = w ∧ e 7 = .ptr H.length 0 0 ∧ e 10 = .int .i64 (i : Int) ∧ e 11 = .int .i64 ((m : Int) - 1) ∧ H' = H ++ (Blk.rw 0 6 x.c :: G)) ?_ way.length _ _ ?_
  · rintro m e H' ⟨G, acc, i, hm, hacc, hg, hp, hh, i0, i1, i7, i10, i11, rfl⟩
    cases m with
    | zero =>
      have d : decide ((0 : Int) ≤ -1) = false := by decide
      have e1 : ((0 : Nat) : Int) - 1 = -1 := rfl
      rw [e1] at i11
      simp only [List.take_zero, List.nil_append, pairsW, List.append_nil, List.head?_cons] at hp hh
      have hww : writesW l x (way ++ [free]) = acc ++ [⟨(i : Int), ⟨true, x⟩⟩] := by
        cases hwf : way ++ [free] with
        | nil => simp at hwf
        | cons b r =>
          rw [hwf] at hh hp
          simp at hh
          subst hh
          rw [writesW, hp]
      obtain ⟨v', G', hpu, hg'⟩ := hg.push0 (bytes := 64) (lim := H.length) (⟨(i : Int), ⟨true, x⟩⟩ : Wr) rfl (by simp) (by omega)
      obtain ⟨v'', L', hfin, hsh⟩ := hg'.keep Wr.fl
      simp only [go_sem, Nat.reduceAdd, Nat.reduceMul, Nat.reduceSub, Nat.reduceBEq, Nat.reduceEqDiff, Nat.reduceLeDiff, Nat.reduceLT, Nat.reduceBneDiff, Int.reduceAdd, Int.cast_ofNat_Int, Int.toNat_natCast, Int.reduceLE, Int.reduceLT, Int.reduceToNat, Int.reduceEq, ↓reduceIte, show H.length + 1 + G.length = H.length + (G.length + 1) by omega] at hpu hfin
      simp only [f68b0, go_sem, Nat.reduceAdd, Nat.reduceMul, Nat.reduceSub, Nat.reduceBEq, Nat.reduceEqDiff, Nat.reduceLeDiff, Nat.reduceLT, Nat.reduceBneDiff, Int.reduceAdd, Int.cast_ofNat_Int, Int.toNat_natCast, Int.reduceLE, Int.reduceLT, Int.reduceToNat, Int.reduceEq, ↓reduceIte, i0, i1, i7, i10, i11, ge_iff_le, d, hpu, hfin]
      exact ⟨L', rfl, by rw [hww]; exact hsh⟩
    | succ m =>
      obtain ⟨a, ha, _⟩ := get_of_lt (show m < way.length by omega)
      obtain ⟨id, ver, q, E⟩ := hw.at (by omega) nC_len ha
      obtain ⟨s, hs, _⟩ := get_of_lt (hin a (List.mem_of_getElem? ha))
      obtain ⟨kd, xer, t, K⟩ := hv.at (by omega) Sl.len hs
      have e1 : ((m + 1 : Nat) : Int) - 1 = (m : Int) := by omega
      rw [e1] at i11
      have d : decide ((0 : Int) ≤ (m : Int)) = true := by rw [decide_eq_true_eq]; omega
      have a1 : IntKind.wrap .i64 ((m : Int) - 1) = (m : Int) - 1 := by rw [wrap_i64] <;> omega
      rw [take_succ_of ha] at hp hh
      have e2 : way.take m ++ [a] ++ [i] = way.take m ++ [a, i] := by simp
      rw [e2] at hp hh
      rw [pairsW_snoc, hs, Option.getD_some] at hp
      obtain ⟨v', G', hpu, hg'⟩ := hg.push0 (bytes := 64) (lim := H.length) (⟨(i : Int), s⟩ : Wr) rfl (by simp) (by omega)
      simp only [go_sem, Nat.reduceAdd, Nat.reduceMul, Nat.reduceSub, Nat.reduceBEq, Nat.reduceEqDiff, Nat.reduceLeDiff, Nat.reduceLT, Nat.reduceBneDiff, Int.reduceAdd, Int.cast_ofNat_Int, Int.toNat_natCast, Int.reduceLE, Int.reduceLT, Int.reduceToNat, Int.reduceEq, ↓reduceIte, show H.length + 1 + G.length = H.length + (G.length + 1) by omega] at hpu
      simp only [f68b0, go_sem, Nat.reduceAdd, Nat.reduceMul, Nat.reduceSub, Nat.reduceBEq, Nat.reduceEqDiff, Nat.reduceLeDiff, Nat.reduceLT, Nat.reduceBneDiff, Int.reduceAdd, Int.cast_ofNat_Int, Int.toNat_natCast, Int.reduceLE, Int.reduceLT, Int.reduceToNat, Int.reduceEq, ↓reduceIte, i0, i1, i7, i10, i11, ge_iff_le, d, a1, E.adr, E.adr', E.cel, E.cel', E.all, E.all', E.part, E.part', E.part0, E.part0', E.one, E.one', E.one0, E.one0', K.adr, K.adr', K.cel, K.cel', K.all, K.all', K.part, K.part', K.part0, K.part0', K.one, K.one', K.one0, K.one0', hpu]
      refine ⟨m, by omega, G', acc ++ [⟨(i : Int), s⟩], a, by omega, by simp; omega, hg', by rw [hp]; simp, ?_, rfl, rfl, rfl⟩
      rw [hh]
      cases hwt : way.take m <;> simp
  · refine ⟨[], [], free, Nat.le_refl _, by simp, ?_, by rw [List.take_length]; rfl, by rw [List.take_length], by simp only [go_sem, Nat.reduceAdd, Nat.reduceMul, Nat.reduceSub, Nat.reduceBEq, Nat.reduceEqDiff, Nat.reduceLeDiff, Nat.reduceLT, Nat.reduceBneDiff, Int.reduceAdd, Int.cast_ofNat_Int, Int.toNat_natCast, Int.reduceLE, Int.reduceLT, Int.reduceToNat, Int.reduceEq, ↓reduceIte], by simp only [go_sem, Nat.reduceAdd, Nat.reduceMul, Nat.reduceSub, Nat.reduceBEq, Nat.reduceEqDiff, Nat.reduceLeDiff, Nat.reduceLT, Nat.reduceBneDiff, Int.reduceAdd, Int.cast_ofNat_Int, Int.toNat_natCast, Int.reduceLE, Int.reduceLT, Int.reduceToNat, Int.reduceEq, ↓reduceIte], by simp only [go_sem, Nat.reduceAdd, Nat.reduceMul, Nat.reduceSub, Nat.reduceBEq, Nat.reduceEqDiff, Nat.reduceLeDiff, Nat.reduceLT, Nat.reduceBneDiff, Int.reduceAdd, Int.cast_ofNat_Int, Int.toNat_natCast, Int.reduceLE, Int.reduceLT, Int.reduceToNat, Int.reduceEq, ↓reduceIte], by simp only [go_sem, Nat.reduceAdd, Nat.reduceMul, Nat.reduceSub, Nat.reduceBEq, Nat.reduceEqDiff, Nat.reduceLeDiff, Nat.reduceLT, Nat.reduceBneDiff, Int.reduceAdd, Int.cast_ofNat_Int, Int.toNat_natCast, Int.reduceLE, Int.reduceLT, Int.reduceToNat, Int.reduceEq, ↓reduceIte], by simp only [go_sem, Nat.reduceAdd, Nat.reduceMul, Nat.reduceSub, Nat.reduceBEq, Nat.reduceEqDiff, Nat.reduceLeDiff, Nat.reduceLT, Nat.reduceBneDiff, Int.reduceAdd, Int.cast_ofNat_Int, Int.toNat_natCast, Int.reduceLE, Int.reduceLT, Int.reduceToNat, Int.reduceEq, ↓reduceIte], by simp only [go_sem, Nat.reduceAdd, Nat.reduceMul, Nat.reduceSub, Nat.reduceBEq, Nat.reduceEqDiff, Nat.reduceLeDiff, Nat.reduceLT, Nat.reduceBneDiff, Int.reduceAdd, Int.cast_ofNat_Int, Int.toNat_natCast, Int.reduceLE, Int.reduceLT, Int.reduceToNat, Int.reduceEq, ↓reduceIte]⟩
    simp only [go_sem, Nat.reduceAdd, Nat.reduceMul, Nat.reduceSub, Nat.reduceBEq, Nat.reduceEqDiff, Nat.reduceLeDiff, Nat.reduceLT, Nat.reduceBneDiff, Int.reduceAdd, Int.cast_ofNat_Int, Int.toNat_natCast, Int.reduceLE, Int.reduceLT, Int.reduceToNat, Int.reduceEq, ↓reduceIte]; exact Gr.nil
end Go.Proofs.Ytmjanbhmpbhagaa.C
