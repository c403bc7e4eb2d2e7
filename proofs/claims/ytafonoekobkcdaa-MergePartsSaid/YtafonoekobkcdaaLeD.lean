/- ROWS MERGED: plain laws: what was merged is merged, orders do not matter, each entry is covered; law05.Of, law10.same. Conditions: those of each. -/
import Derived.Test.YtafonoekobkcdaaLeC
set_option linter.unusedVariables false
set_option linter.unusedSimpArgs false
namespace Go.AM
theorem mstep_none {l : List En} : mstep l = none ↔ twoW l = none := by
  unfold mstep
  cases twoW l with
  | none => simp
  | some t => obtain ⟨i, k, w⟩ := t; simp
theorem mergeN_end : ∀ (f : Nat) (l : List En), l.length ≤ f → twoW (mergeN f l) = none
  | 0, l, h => by
    have : l = [] := List.eq_nil_of_length_eq_zero (by omega)
    subst this; rfl
  | f + 1, l, h => by
    rw [mergeN]
    cases hm : mstep l with
    | none => exact mstep_none.1 hm
    | some m =>
      have := mstep_len hm
      exact mergeN_end f m (by omega)
theorem mergeN_stop {l : List En} (h : twoW l = none) : ∀ f, mergeN f l = l
  | 0 => rfl
  | f + 1 => by rw [mergeN, mstep_none.2 h]
theorem mergeN_sorted : ∀ (f : Nat) (l : List En), Sorted l → Sorted (mergeN f l)
  | 0, l, h => h
  | f + 1, l, h => by
    rw [mergeN]
    cases hm : mstep l with
    | none => exact h
    | some m =>
      refine mergeN_sorted f m ?_
      unfold mstep at hm
      split at hm
      · cases hm
      · simp only [Option.some.injEq] at hm
        rw [← hm]; exact sort_sorted _
theorem mergeN_len : ∀ (f : Nat) (l : List En), (mergeN f l).length ≤ l.length
  | 0, l => Nat.le_refl _
  | f + 1, l => by
    rw [mergeN]
    cases hm : mstep l with
    | none => exact Nat.le_refl _
    | some m =>
      have := mstep_len hm
      have := mergeN_len f m
      simp only; omega
theorem mergeW_len (l : List En) : (mergeW l).length ≤ l.length := by
  unfold mergeW
  have := mergeN_len l.length (eSort l)
  rwa [sort_len] at this
/-- What was merged is merged. -/
theorem mergeW_ends (l : List En) : mergeW (mergeW l) = mergeW l := by
  have hs : Sorted (mergeW l) := mergeN_sorted _ _ (sort_sorted l)
  have ht : twoW (mergeW l) = none := mergeN_end _ _ (by rw [sort_len]; exact Nat.le_refl _)
  have : mergeW (mergeW l) = mergeN (mergeW l).length (eSort (mergeW l)) := rfl
  rw [this, sort_of_sorted hs, mergeN_stop ht]
/-- In whatever order a row comes. -/
theorem mergeW_perm {l m : List En} (h : l.Perm m) : mergeW l = mergeW m := by
  unfold mergeW
  rw [h.length_eq, sort_congr h]
theorem covers_iff (x y : Wd) : x.covers y = true ↔ x.m &&& y.m = x.m ∧ (x.v ^^^ y.v) &&& x.m = 0#128 := by
  unfold Wd.covers Wd.matches differA
  simp only [Bool.and_eq_true, beq_iff_eq]
theorem covers_refl (x : Wd) : x.covers x = true := by
  rw [covers_iff]; simp
theorem covers_trans {x y z : Wd} (h : x.covers y = true) (g : y.covers z = true) : x.covers z = true := by
  rw [covers_iff] at *
  obtain ⟨h1, h2⟩ := h
  obtain ⟨g1, g2⟩ := g
  constructor
  · apply BitVec.eq_of_getElem_eq
    intro i hi
    have a := congrArg (fun b : BitVec 128 => b[i]) h1
    have b := congrArg (fun b : BitVec 128 => b[i]) g1
    simp at a b ⊢
    intro h
    exact b (a h)
  · apply BitVec.eq_of_getElem_eq
    intro i hi
    have a := congrArg (fun b : BitVec 128 => b[i]) h1
    have b := congrArg (fun b : BitVec 128 => b[i]) h2
    have c := congrArg (fun b : BitVec 128 => b[i]) g2
    simp at a b c ⊢
    cases hx : x.m[i]
    · simp
    · have ha := a hx
      rw [hx] at b
      rw [ha] at c
      simp at b c ⊢
      rw [b, c]
theorem merge_covers {x y w : Wd} (h : x.merge y = some w) : w.covers x = true ∧ w.covers y = true := by
  unfold Wd.merge at h
  split at h
  · rename_i hc
    simp only [Option.some.injEq] at h
    subst h
    obtain ⟨hm, _⟩ := hc
    simp only [covers_iff, Wd.clean, differA]
    refine ⟨⟨?_, ?_⟩, ?_, ?_⟩ <;> apply BitVec.eq_of_getElem_eq <;> intro i hi <;> (try rw [← hm]) <;> simp <;> cases x.v[i] <;> cases y.v[i] <;> cases x.m[i] <;> simp
  · cases h
/-- Is there an entry as long, that does the same, and covers it? -/
def partOf (m : List En) (x : En) : Bool := m.any fun y => y.n == x.n && (y.x == x.x && y.w.covers x.w)
theorem mem_restN {i k : Nat} {x : En} : ∀ {j : Nat} {l : List En} {q : Nat}, l[q]? = some x → j + q ≠ i → j + q ≠ k → x ∈ restN i k j l
  | j, [], q, h, _, _ => by simp at h
  | j, y :: l, 0, h, h1, h2 => by
    simp at h
    subst h
    rw [restN, if_pos ⟨by omega, by omega⟩]; simp
  | j, y :: l, q + 1, h, h1, h2 => by
    rw [restN]
    have := mem_restN (i := i) (k := k) (j := j + 1) (l := l) (q := q) (by simpa using h) (by omega) (by omega)
    simp [this]
theorem mstep_parts {l m : List En} (h : mstep l = some m) {x : En} (hx : x ∈ l) : partOf m x = true := by
  unfold mstep at h
  split at h
  · cases h
  · rename_i i k w hw
    simp only [Option.some.injEq] at h
    obtain ⟨h1, a, b, ha, hb, hn, hxx, hm⟩ := twoN_spec _ _ hw
    obtain ⟨c1, c2⟩ := merge_covers hm
    rw [ha] at h
    simp only [Option.getD_some] at h
    obtain ⟨q, hq⟩ := List.getElem?_of_mem hx
    have hin : ∀ y, y ∈ restN i k 0 l ++ [⟨w, a.n, a.x⟩] → y ∈ m := fun y hy => by rw [← h]; exact (sort_perm _).mem_iff.2 hy
    unfold partOf
    rw [List.any_eq_true]
    by_cases hi : q = i
    · subst hi
      rw [ha] at hq; cases hq
      exact ⟨⟨w, x.n, x.x⟩, hin _ (by simp), by simp [c1]⟩
    · by_cases hk : q = k
      · subst hk
        rw [hb] at hq; cases hq
        exact ⟨⟨w, a.n, a.x⟩, hin _ (by simp), by simp [c2, hn, hxx]⟩
      · have hmem := mem_restN (i := i) (k := k) (j := 0) (l := l) (q := q) hq (by omega) (by omega)
        exact ⟨x, hin _ (by simp [hmem]), by simp [covers_refl]⟩
theorem partOf_trans {l m : List En} (h : ∀ y ∈ l, partOf m y = true) {x : En} (hx : partOf l x = true) : partOf m x = true := by
  unfold partOf at hx
  rw [List.any_eq_true] at hx
  obtain ⟨y, hy, hyx⟩ := hx
  simp only [Bool.and_eq_true, beq_iff_eq] at hyx
  have := h y hy
  unfold partOf at this ⊢
  rw [List.any_eq_true] at this ⊢
  obtain ⟨z, hz, hzy⟩ := this
  simp only [Bool.and_eq_true, beq_iff_eq] at hzy
  refine ⟨z, hz, ?_⟩
  simp only [Bool.and_eq_true, beq_iff_eq]
  exact ⟨hzy.1.trans hyx.1, hzy.2.1.trans hyx.2.1, covers_trans hzy.2.2 hyx.2.2⟩
theorem mergeN_parts : ∀ (f : Nat) (l : List En) (x : En), x ∈ l → partOf (mergeN f l) x = true
  | 0, l, x, hx => by
    unfold partOf
    rw [List.any_eq_true]
    exact ⟨x, hx, by simp [covers_refl]⟩
  | f + 1, l, x, hx => by
    rw [mergeN]
    cases hm : mstep l with
    | none =>
      unfold partOf
      rw [List.any_eq_true]
      exact ⟨x, hx, by simp [covers_refl]⟩
    | some m => exact partOf_trans (fun y hy => mergeN_parts f m y hy) (mstep_parts hm hx)
theorem mergeW_parts (l : List En) (x : En) (hx : x ∈ l) : partOf (mergeW l) x = true := mergeN_parts _ _ x ((sort_perm l).mem_iff.2 hx)
end Go.AM
namespace Go.Proofs.Ytafonoekobkcdaa.C
open Go.AM
variable {hook : Nat → Nat → List AV → Heap → Option (AV × Heap)} {lim : Nat} {H : Heap}
theorem ev_law05Of (v : AV) (l : List En) (hv : Lst En.c 6 H v l) (hl : l.length < 1000000) : ∃ v' L, ev (PX hook) lim 9 [v] H = some (v', H ++ L) ∧ Gr En.c 6 H L v' l := by
  suffices hs : EV (PX hook) lim 9 [v] H fun v' H' => ∃ L, H' = H ++ L ∧ Gr En.c 6 H L v' l by
    rw [EV_iff] at hs; obtain ⟨v', H', h1, L, rfl, h2⟩ := hs; exact ⟨v', L, h1, h2⟩
  rw [EV_own _ (PF t9) rfl (by decide)]
  have hlen := hv.len'
  simp only [f9, go_sem, Nat.reduceAdd, Nat.reduceMul, Nat.reduceSub, Nat.reduceBEq, Nat.reduceEqDiff, Nat.reduceLeDiff, Nat.reduceLT, Nat.reduceBneDiff, Int.reduceAdd, Int.cast_ofNat_Int, Int.toNat_natCast, Int.reduceLE, Int.reduceLT, Int.reduceToNat, Int.reduceEq, ↓reduceIte, hlen]
  refine GO_loop _ (fun m e H' => ∃ (k : Nat) (G : Heap), k + m = l.length ∧ Gr En.c 6 H G (e 3) (l.take k) ∧ e 6 = v ∧ e 7 = .int .i64 (l.length : Int) ∧ e 8 = .int .i64 (k : Int) ∧ H' = H ++ G) ?_ l.length _ _ ?_
  · rintro m e H' ⟨k, G, hk, hg, i6, i7, i8, rfl⟩
    cases m with
    | zero =>
      have hk' : k = l.length := by omega
      subst hk'
      rw [List.take_length] at hg
      obtain ⟨v', L', hfin, hsh⟩ := hg.keep0 En.fl
      simp only [f9b0, go_sem, Nat.reduceAdd, Nat.reduceMul, Nat.reduceSub, Nat.reduceBEq, Nat.reduceEqDiff, Nat.reduceLeDiff, Nat.reduceLT, Nat.reduceBneDiff, Int.reduceAdd, Int.cast_ofNat_Int, Int.toNat_natCast, Int.reduceLE, Int.reduceLT, Int.reduceToNat, Int.reduceEq, ↓reduceIte, i6, i7, i8, lt_false, hfin]
      exact ⟨L', rfl, hsh⟩
    | succ m =>
      obtain ⟨x, hx, _⟩ := get_of_lt (show k < l.length by omega)
      obtain ⟨id, ver, p, E⟩ := hv.at (by omega) En.len hx
      have d := lt_true (show k < l.length by omega)
      have a1 := wrap_succ (show k < 1000000 by omega)
      obtain ⟨v', G', ha, hg'⟩ := hg.push1 (bytes := 48) (lim := H.length) (.rw 0 6 x.c) x rfl (Nat.le_refl _) (by rw [List.length_take]; omega)
      simp only [f9b0, go_sem, Nat.reduceAdd, Nat.reduceMul, Nat.reduceSub, Nat.reduceBEq, Nat.reduceEqDiff, Nat.reduceLeDiff, Nat.reduceLT, Nat.reduceBneDiff, Int.reduceAdd, Int.cast_ofNat_Int, Int.toNat_natCast, Int.reduceLE, Int.reduceLT, Int.reduceToNat, Int.reduceEq, ↓reduceIte, i6, i7, i8, d, a1, E.adr, E.adr', E.cel, E.cel', E.all, E.all', E.part, E.part', E.part0, E.part0', E.one, E.one', E.one0, E.one0', ev_law05One, ha]
      exact ⟨m, by omega, k + 1, G', by omega, by rw [take_succ_of hx]; exact hg', rfl, rfl⟩
  · exact ⟨0, [], by omega, Gr.nil, by simp only [go_sem, Nat.reduceAdd, Nat.reduceMul, Nat.reduceSub, Nat.reduceBEq, Nat.reduceEqDiff, Nat.reduceLeDiff, Nat.reduceLT, Nat.reduceBneDiff, Int.reduceAdd, Int.cast_ofNat_Int, Int.toNat_natCast, Int.reduceLE, Int.reduceLT, Int.reduceToNat, Int.reduceEq, ↓reduceIte], by simp only [go_sem, Nat.reduceAdd, Nat.reduceMul, Nat.reduceSub, Nat.reduceBEq, Nat.reduceEqDiff, Nat.reduceLeDiff, Nat.reduceLT, Nat.reduceBneDiff, Int.reduceAdd, Int.cast_ofNat_Int, Int.toNat_natCast, Int.reduceLE, Int.reduceLT, Int.reduceToNat, Int.reduceEq, ↓reduceIte], by simp only [go_sem, Nat.reduceAdd, Nat.reduceMul, Nat.reduceSub, Nat.reduceBEq, Nat.reduceEqDiff, Nat.reduceLeDiff, Nat.reduceLT, Nat.reduceBneDiff, Int.reduceAdd, Int.cast_ofNat_Int, Int.toNat_natCast, Int.reduceLE, Int.reduceLT, Int.reduceToNat, Int.reduceEq, ↓reduceIte], by simp only [go_sem, Nat.reduceAdd, Nat.reduceMul, Nat.reduceSub, Nat.reduceBEq, Nat.reduceEqDiff, Nat.reduceLeDiff, Nat.reduceLT, Nat.reduceBneDiff, Int.reduceAdd, Int.cast_ofNat_Int, Int.toNat_natCast, Int.reduceLE, Int.reduceLT, Int.reduceToNat, Int.reduceEq, ↓reduceIte]⟩
theorem ev_same10 (v u : AV) (l m : List En) (hv : Lst En.c 6 H v l) (hu : Lst En.c 6 H u m) (hl : l.length < 1000000) : ev (PX hook) lim 10 [v, u] H = some (.bool (decide (l = m)), H) := by
  refine ev_own _ (PF t10) rfl (by decide) ?_
  obtain ⟨v', L, hw, hg⟩ := ev_law05Of (hook := hook) (lim := H.length) v l hv hl
  have hv' := hg.lst
  have hu' := hu.more L
  have hlv := hv'.len'
  have hlu := hu'.len'
  by_cases hlm : l.length = m.length
  · have b1 : ((l.length : Int) != (m.length : Int)) = false := by rw [hlm]; simp
    simp only [f10, go_sem, Nat.reduceAdd, Nat.reduceMul, Nat.reduceSub, Nat.reduceBEq, Nat.reduceEqDiff, Nat.reduceLeDiff, Nat.reduceLT, Nat.reduceBneDiff, Int.reduceAdd, Int.cast_ofNat_Int, Int.toNat_natCast, Int.reduceLE, Int.reduceLT, Int.reduceToNat, Int.reduceEq, ↓reduceIte, hw, hlv, hlu, b1]
    refine GO_loop _ (fun n e H' => ∃ k : Nat, k + n = l.length ∧ l.take k = m.take k ∧ e 1 = u ∧ e 5 = v' ∧ e 15 = .int .i64 (l.length : Int) ∧ e 16 = .int .i64 (k : Int) ∧ H' = H ++ L) ?_ l.length _ _ ?_
    · rintro n e H' ⟨k, hk, heq, i1, i5, i15, i16, rfl⟩
      cases n with
      | zero =>
        have hk' : k = l.length := by omega
        subst hk'
        rw [List.take_length, hlm, List.take_length] at heq
        have b2 : decide (l = m) = true := by rw [decide_eq_true_eq]; exact heq
        simp only [f10b0, go_sem, Nat.reduceAdd, Nat.reduceMul, Nat.reduceSub, Nat.reduceBEq, Nat.reduceEqDiff, Nat.reduceLeDiff, Nat.reduceLT, Nat.reduceBneDiff, Int.reduceAdd, Int.cast_ofNat_Int, Int.toNat_natCast, Int.reduceLE, Int.reduceLT, Int.reduceToNat, Int.reduceEq, ↓reduceIte, i1, i5, i15, i16, lt_false, b2]
      | succ n =>
        obtain ⟨x, hx, _⟩ := get_of_lt (show k < l.length by omega)
        obtain ⟨y, hy, _⟩ := get_of_lt (show k < m.length by omega)
        obtain ⟨id, ver, p, E⟩ := hv'.at (by omega) En.len hx
        obtain ⟨jd, wer, q, F⟩ := hu'.at (by omega) En.len hy
        have d := lt_true (show k < l.length by omega)
        have a1 := wrap_succ (show k < 1000000 by omega)
        by_cases hxy : x = y
        · have b3 : decide (x = y) = true := by simp [hxy]
          simp only [f10b0, go_sem, Nat.reduceAdd, Nat.reduceMul, Nat.reduceSub, Nat.reduceBEq, Nat.reduceEqDiff, Nat.reduceLeDiff, Nat.reduceLT, Nat.reduceBneDiff, Int.reduceAdd, Int.cast_ofNat_Int, Int.toNat_natCast, Int.reduceLE, Int.reduceLT, Int.reduceToNat, Int.reduceEq, ↓reduceIte, i1, i5, i15, i16, d, a1, E.adr, E.adr', E.cel, E.cel', E.all, E.all', E.part, E.part', E.part0, E.part0', E.one, E.one', E.one0, E.one0', F.adr, F.adr', F.cel, F.cel', F.all, F.all', F.part, F.part', F.part0, F.part0', F.one, F.one', F.one0, F.one0', b3]
          exact ⟨n, by omega, k + 1, by omega, by rw [take_succ_of hx, take_succ_of hy, heq, hxy], rfl⟩
        · have b3 : decide (x = y) = false := by simp [hxy]
          have b4 : decide (l = m) = false := by
            rw [decide_eq_false_iff_not]; intro h
            rw [h, hy] at hx
            exact hxy (Option.some.inj hx).symm
          simp only [f10b0, go_sem, Nat.reduceAdd, Nat.reduceMul, Nat.reduceSub, Nat.reduceBEq, Nat.reduceEqDiff, Nat.reduceLeDiff, Nat.reduceLT, Nat.reduceBneDiff, Int.reduceAdd, Int.cast_ofNat_Int, Int.toNat_natCast, Int.reduceLE, Int.reduceLT, Int.reduceToNat, Int.reduceEq, ↓reduceIte, i1, i5, i15, i16, d, a1, E.adr, E.adr', E.cel, E.cel', E.all, E.all', E.part, E.part', E.part0, E.part0', E.one, E.one', E.one0, E.one0', F.adr, F.adr', F.cel, F.cel', F.all, F.all', F.part, F.part', F.part0, F.part0', F.one, F.one', F.one0, F.one0', b3, b4]
    · exact ⟨0, by omega, by simp, by simp only [go_sem, Nat.reduceAdd, Nat.reduceMul, Nat.reduceSub, Nat.reduceBEq, Nat.reduceEqDiff, Nat.reduceLeDiff, Nat.reduceLT, Nat.reduceBneDiff, Int.reduceAdd, Int.cast_ofNat_Int, Int.toNat_natCast, Int.reduceLE, Int.reduceLT, Int.reduceToNat, Int.reduceEq, ↓reduceIte], by simp only [go_sem, Nat.reduceAdd, Nat.reduceMul, Nat.reduceSub, Nat.reduceBEq, Nat.reduceEqDiff, Nat.reduceLeDiff, Nat.reduceLT, Nat.reduceBneDiff, Int.reduceAdd, Int.cast_ofNat_Int, Int.toNat_natCast, Int.reduceLE, Int.reduceLT, Int.reduceToNat, Int.reduceEq, ↓reduceIte], by simp only [go_sem, Nat.reduceAdd, Nat.reduceMul, Nat.reduceSub, Nat.reduceBEq, Nat.reduceEqDiff, Nat.reduceLeDiff, Nat.reduceLT, Nat.reduceBneDiff, Int.reduceAdd, Int.cast_ofNat_Int, Int.toNat_natCast, Int.reduceLE, Int.reduceLT, Int.reduceToNat, Int.reduceEq, ↓reduceIte], by simp only [go_sem, Nat.reduceAdd, Nat.reduceMul, Nat.reduceSub, Nat.reduceBEq, Nat.reduceEqDiff, Nat.reduceLeDiff, Nat.reduceLT, Nat.reduceBneDiff, Int.reduceAdd, Int.cast_ofNat_Int, Int.toNat_natCast, Int.reduceLE, Int.reduceLT, Int.reduceToNat, Int.reduceEq, ↓reduceIte], rfl⟩
  · have b1 : ((l.length : Int) != (m.length : Int)) = true := by simp; omega
    have b2 : decide (l = m) = false := by rw [decide_eq_false_iff_not]; intro h; rw [h] at hlm; exact hlm rfl
    simp only [f10, go_sem, Nat.reduceAdd, Nat.reduceMul, Nat.reduceSub, Nat.reduceBEq, Nat.reduceEqDiff, Nat.reduceLeDiff, Nat.reduceLT, Nat.reduceBneDiff, Int.reduceAdd, Int.cast_ofNat_Int, Int.toNat_natCast, Int.reduceLE, Int.reduceLT, Int.reduceToNat, Int.reduceEq, ↓reduceIte, hw, hlv, hlu, b1, b2]
end Go.Proofs.Ytafonoekobkcdaa.C
