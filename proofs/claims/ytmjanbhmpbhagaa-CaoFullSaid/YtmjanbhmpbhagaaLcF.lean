/- THE ORDERS OF SLOTS: what keeps them, on both sides. Conditions: the slices show what is told. -/
import Derived.Test.YtmjanbhmpbhagaaLcE
set_option linter.unusedVariables false
set_option linter.unusedSimpArgs false
namespace Go.AM
/-- Rows in the order of what must stand above what. -/
def ordered (l : List En) : Bool := decide (l.Pairwise fun a b => b.above a = false)
def longs (l : List En) : Bool := decide (l.Pairwise fun a b => b.n ≤ a.n)
theorem pair_snoc {α : Type} {R : α → α → Prop} {l : List α} {x : α} : (l ++ [x]).Pairwise R ↔ l.Pairwise R ∧ ∀ a ∈ l, R a x := by
  rw [List.pairwise_append]
  simp
theorem pair_take {α : Type} {R : α → α → Prop} {l : List α} (h : l.Pairwise R) (k : Nat) : (l.take k).Pairwise R := h.sublist (List.take_sublist k l)
theorem longs_ents (l : List Sl) : longs (ents l) = decide (l.Pairwise fun a b => a.ok = true → b.ok = true → b.e.n ≤ a.e.n) := by
  unfold longs ents
  rw [decide_eq_decide, List.pairwise_map, List.pairwise_filter]
theorem chain_pair {l : List En} (h : ∀ i, ∀ x y, l[i]? = some x → l[i + 1]? = some y → y.n ≤ x.n) : l.Pairwise fun a b => b.n ≤ a.n := by
  rw [List.pairwise_iff_getElem]
  intro i j hi hj hij
  obtain ⟨d, rfl⟩ : ∃ d, j = i + 1 + d := ⟨j - i - 1, by omega⟩
  clear hij
  induction d with
  | zero => exact h i _ _ (List.getElem?_eq_getElem hi) (List.getElem?_eq_getElem hj)
  | succ d ih =>
    have h1 := ih (by omega)
    have h2 := h (i + 1 + d) _ _ (List.getElem?_eq_getElem (by omega)) (List.getElem?_eq_getElem hj)
    exact Int.le_trans h2 h1
end Go.AM
namespace Go.Proofs.Ytmjanbhmpbhagaa.C
open Go.AM
variable {hook : Nat → Nat → List AV → Heap → Option (AV × Heap)} {lim : Nat} {H : Heap}
theorem ev_cmpI (a b : Int) : ev (PX hook) lim 98 [.int .i64 a, .int .i64 b] H = some (.int .i64 (cmpI a b), H) := by
  refine ev_own _ (PF t98) rfl (by decide) ?_
  unfold cmpI
  by_cases h1 : a < b
  · have d1 : decide (a < b) = true := by simp [h1]
    simp only [f98, go_sem, Nat.reduceAdd, Nat.reduceMul, Nat.reduceSub, Nat.reduceBEq, Nat.reduceEqDiff, Nat.reduceLeDiff, Nat.reduceLT, Nat.reduceBneDiff, Int.reduceAdd, Int.cast_ofNat_Int, Int.toNat_natCast, Int.reduceLE, Int.reduceLT, Int.reduceToNat, Int.reduceEq, ↓reduceIte, ev_isNaN, d1, h1]
  · have d1 : decide (a < b) = false := by simp [h1]
    by_cases h2 : b < a
    · have d2 : decide (b < a) = true := by simp [h2]
      simp only [f98, go_sem, Nat.reduceAdd, Nat.reduceMul, Nat.reduceSub, Nat.reduceBEq, Nat.reduceEqDiff, Nat.reduceLeDiff, Nat.reduceLT, Nat.reduceBneDiff, Int.reduceAdd, Int.cast_ofNat_Int, Int.toNat_natCast, Int.reduceLE, Int.reduceLT, Int.reduceToNat, Int.reduceEq, ↓reduceIte, ev_isNaN, d1, d2, h1, h2, gt_iff_lt]
    · have d2 : decide (b < a) = false := by simp [h2]
      simp only [f98, go_sem, Nat.reduceAdd, Nat.reduceMul, Nat.reduceSub, Nat.reduceBEq, Nat.reduceEqDiff, Nat.reduceLeDiff, Nat.reduceLT, Nat.reduceBneDiff, Int.reduceAdd, Int.cast_ofNat_Int, Int.toNat_natCast, Int.reduceLE, Int.reduceLT, Int.reduceToNat, Int.reduceEq, ↓reduceIte, ev_isNaN, d1, d2, h1, h2, gt_iff_lt]
theorem ev_Kept1 (a b : En) : ev (PX hook) lim 97 [.agg a.c, .agg b.c] H = some (.int .i64 (cmpI b.n a.n), H) := by
  refine ev_own _ (PF t97) rfl (by decide) ?_
  simp only [f97, go_sem, Nat.reduceAdd, Nat.reduceMul, Nat.reduceSub, Nat.reduceBEq, Nat.reduceEqDiff, Nat.reduceLeDiff, Nat.reduceLT, Nat.reduceBneDiff, Int.reduceAdd, Int.cast_ofNat_Int, Int.toNat_natCast, Int.reduceLE, Int.reduceLT, Int.reduceToNat, Int.reduceEq, ↓reduceIte, ev_cmpI]
theorem ev_IsSorted (v : AV) (l : List En) (hv : Lst En.c 6 H v l) (hl : l.length < 1000000) : ev (PX hook) lim 99 [v, .fn 97 []] H = some (.bool (longs l), H) := by
  refine ev_own _ (PF t99) rfl (by decide) ?_
  have hlen := hv.len'
  simp only [f99, go_sem, Nat.reduceAdd, Nat.reduceMul, Nat.reduceSub, Nat.reduceBEq, Nat.reduceEqDiff, Nat.reduceLeDiff, Nat.reduceLT, Nat.reduceBneDiff, Int.reduceAdd, Int.cast_ofNat_Int, Int.toNat_natCast, Int.reduceLE, Int.reduceLT, Int.reduceToNat, Int.reduceEq, ↓reduceIte, hlen]
  have a0 : IntKind.wrap .i64 ((l.length : Int) - 1) = (l.length : Int) - 1 := by rw [wrap_i64] <;> omega
  simp only [a0]
  refine GO_loop _ (fun m e H' => ∃ i : Int, i = (m : Int) - 1 ∧ m ≤ l.length ∧ (∀ j : Nat, m ≤ j + 1 → ∀ x y, l[j]? = some x → l[j + 1]? = some y → y.n ≤ x.n) ∧ e 0 = v ∧ e 1 = .fn 97 [] ∧ e 5 = .int .i64 i ∧ H' = H) ?_ l.length _ _ ?_
  · rintro m e H' ⟨i, hi, hm, hj, i0, i1, i5, rfl⟩
    by_cases h1 : m ≤ 1
    · have d : decide ((0 : Int) < i) = false := by rw [decide_eq_false_iff_not]; omega
      have hall : longs l = true := by
        unfold longs
        rw [decide_eq_true_eq]
        exact chain_pair fun j x y hx hy => hj j (by omega) x y hx hy
      simp only [f99b0, go_sem, Nat.reduceAdd, Nat.reduceMul, Nat.reduceSub, Nat.reduceBEq, Nat.reduceEqDiff, Nat.reduceLeDiff, Nat.reduceLT, Nat.reduceBneDiff, Int.reduceAdd, Int.cast_ofNat_Int, Int.toNat_natCast, Int.reduceLE, Int.reduceLT, Int.reduceToNat, Int.reduceEq, ↓reduceIte, i0, i1, i5, gt_iff_lt, d, hall]
    · obtain ⟨n, rfl⟩ : ∃ n, m = n + 2 := ⟨m - 2, by omega⟩
      have d : decide ((0 : Int) < i) = true := by rw [decide_eq_true_eq]; omega
      have hin : i = ((n + 1 : Nat) : Int) := by omega
      have a1 : IntKind.wrap .i64 (((n + 1 : Nat) : Int) - 1) = (n : Int) := by rw [wrap_i64] <;> omega
      obtain ⟨x, hx, _⟩ := get_of_lt (show n < l.length by omega)
      obtain ⟨y, hy, _⟩ := get_of_lt (show n + 1 < l.length by omega)
      obtain ⟨id, ver, p, E⟩ := hv.at (by omega) En.len hx
      obtain ⟨jd, wer, q, F⟩ := hv.at (by omega) En.len hy
      rw [hin] at d i5
      by_cases hc : x.n < y.n
      · have hcm : cmpI x.n y.n = -1 := by unfold cmpI; rw [if_pos hc]
        have d2 : decide ((-1 : Int) < 0) = true := rfl
        have hno : longs l = false := by
          unfold longs
          rw [decide_eq_false_iff_not, List.pairwise_iff_getElem]
          intro h
          have h3 := h n (n + 1) (by omega) (by omega) (by omega)
          rw [List.getElem?_eq_getElem (by omega)] at hx hy
          simp only [Option.some.injEq] at hx hy
          rw [hx, hy] at h3
          omega
        simp only [f99b0, go_sem, Nat.reduceAdd, Nat.reduceMul, Nat.reduceSub, Nat.reduceBEq, Nat.reduceEqDiff, Nat.reduceLeDiff, Nat.reduceLT, Nat.reduceBneDiff, Int.reduceAdd, Int.cast_ofNat_Int, Int.toNat_natCast, Int.reduceLE, Int.reduceLT, Int.reduceToNat, Int.reduceEq, ↓reduceIte, i0, i1, i5, gt_iff_lt, d, a1, E.adr, E.adr', E.cel, E.cel', E.all, E.all', E.part, E.part', E.part0, E.part0', E.one, E.one', E.one0, E.one0', F.adr, F.adr', F.cel, F.cel', F.all, F.all', F.part, F.part', F.part0, F.part0', F.one, F.one', F.one0, F.one0', ev_Kept1, hcm, d2, hno]
      · have hcm : decide (cmpI x.n y.n < 0) = false := by unfold cmpI; rw [if_neg hc]; split <;> simp
        simp only [f99b0, go_sem, Nat.reduceAdd, Nat.reduceMul, Nat.reduceSub, Nat.reduceBEq, Nat.reduceEqDiff, Nat.reduceLeDiff, Nat.reduceLT, Nat.reduceBneDiff, Int.reduceAdd, Int.cast_ofNat_Int, Int.toNat_natCast, Int.reduceLE, Int.reduceLT, Int.reduceToNat, Int.reduceEq, ↓reduceIte, i0, i1, i5, gt_iff_lt, d, a1, E.adr, E.adr', E.cel, E.cel', E.all, E.all', E.part, E.part', E.part0, E.part0', E.one, E.one', E.one0, E.one0', F.adr, F.adr', F.cel, F.cel', F.all, F.all', F.part, F.part', F.part0, F.part0', F.one, F.one', F.one0, F.one0', ev_Kept1, hcm]
        refine ⟨n + 1, by omega, (n : Int), by omega, by omega, fun j hj' x' y' hx' hy' => ?_, rfl⟩
        by_cases hjn : j = n
        · subst hjn
          rw [hx] at hx'; rw [hy] at hy'
          cases hx'; cases hy'; omega
        · exact hj j (by omega) x' y' hx' hy'
  · refine ⟨_, rfl, Nat.le_refl _, fun j hj x y hx hy => ?_, by simp only [go_sem, Nat.reduceAdd, Nat.reduceMul, Nat.reduceSub, Nat.reduceBEq, Nat.reduceEqDiff, Nat.reduceLeDiff, Nat.reduceLT, Nat.reduceBneDiff, Int.reduceAdd, Int.cast_ofNat_Int, Int.toNat_natCast, Int.reduceLE, Int.reduceLT, Int.reduceToNat, Int.reduceEq, ↓reduceIte], by simp only [go_sem, Nat.reduceAdd, Nat.reduceMul, Nat.reduceSub, Nat.reduceBEq, Nat.reduceEqDiff, Nat.reduceLeDiff, Nat.reduceLT, Nat.reduceBneDiff, Int.reduceAdd, Int.cast_ofNat_Int, Int.toNat_natCast, Int.reduceLE, Int.reduceLT, Int.reduceToNat, Int.reduceEq, ↓reduceIte], by simp only [go_sem, Nat.reduceAdd, Nat.reduceMul, Nat.reduceSub, Nat.reduceBEq, Nat.reduceEqDiff, Nat.reduceLeDiff, Nat.reduceLT, Nat.reduceBneDiff, Int.reduceAdd, Int.cast_ofNat_Int, Int.toNat_natCast, Int.reduceLE, Int.reduceLT, Int.reduceToNat, Int.reduceEq, ↓reduceIte], rfl⟩
    rw [List.getElem?_eq_none (by omega)] at hy; cases hy
theorem ev_ploKept (v : AV) (l : List Sl) (hv : Lst Sl.c 7 H v l) (hl : l.length < 1000000) : ev (PX hook) lim 81 [v] H = some (.bool (longs (ents l)), H) := by
  refine ev_own _ (PF t81) rfl (by decide) ?_
  obtain ⟨v', L, he, hg⟩ := ev_Entries (hook := hook) (lim := H.length) v l hv hl
  have hs := ev_IsSorted (hook := hook) (lim := H.length) v' (ents l) hg.lst (by have := ents_le l; omega)
  simp only [f81, go_sem, Nat.reduceAdd, Nat.reduceMul, Nat.reduceSub, Nat.reduceBEq, Nat.reduceEqDiff, Nat.reduceLeDiff, Nat.reduceLT, Nat.reduceBneDiff, Int.reduceAdd, Int.cast_ofNat_Int, Int.toNat_natCast, Int.reduceLE, Int.reduceLT, Int.reduceToNat, Int.reduceEq, ↓reduceIte, he, hs]
theorem ev_rploKept (v : AV) (l : List Sl) (hv : Lst Sl.c 7 H v l) (hl : l.length < 1000000) : ev (PX hook) lim 53 [v] H = some (.bool (longs (ents l)), H) := by
  refine ev_own _ (PF t53) rfl (by decide) ?_
  rw [longs_ents]
  have hlen := hv.len'
  simp only [f53, go_sem, Nat.reduceAdd, Nat.reduceMul, Nat.reduceSub, Nat.reduceBEq, Nat.reduceEqDiff, Nat.reduceLeDiff, Nat.reduceLT, Nat.reduceBneDiff, Int.reduceAdd, Int.cast_ofNat_Int, Int.toNat_natCast, Int.reduceLE, Int.reduceLT, Int.reduceToNat, Int.reduceEq, ↓reduceIte]
  refine GO_loop _ (fun m e H' => ∃ i : Nat, i + m = l.length ∧ (l.take i).Pairwise (fun a b => a.ok = true → b.ok = true → b.e.n ≤ a.e.n) ∧ e 0 = v ∧ e 3 = .int .i64 (i : Int) ∧ H' = H) ?_ l.length _ _ ?_
  · rintro m e H' ⟨i, hi, hp, i0, i3, rfl⟩
    cases m with
    | zero =>
      have hi' : i = l.length := by omega
      subst hi'
      rw [List.take_length] at hp
      have b : decide (l.Pairwise fun a b => a.ok = true → b.ok = true → b.e.n ≤ a.e.n) = true := by rw [decide_eq_true_eq]; exact hp
      simp only [f53b1, go_sem, Nat.reduceAdd, Nat.reduceMul, Nat.reduceSub, Nat.reduceBEq, Nat.reduceEqDiff, Nat.reduceLeDiff, Nat.reduceLT, Nat.reduceBneDiff, Int.reduceAdd, Int.cast_ofNat_Int, Int.toNat_natCast, Int.reduceLE, Int.reduceLT, Int.reduceToNat, Int.reduceEq, ↓reduceIte, i0, i3, hlen, lt_false, b]
    | succ m =>
      obtain ⟨x, hx, _⟩ := get_of_lt (show i < l.length by omega)
      obtain ⟨id, ver, p, E⟩ := hv.at (by omega) Sl.len hx
      have d := lt_true (show i < l.length by omega)
      have a1 := wrap_succ (show i < 1000000 by omega)
      simp only [f53b1, go_sem, Nat.reduceAdd, Nat.reduceMul, Nat.reduceSub, Nat.reduceBEq, Nat.reduceEqDiff, Nat.reduceLeDiff, Nat.reduceLT, Nat.reduceBneDiff, Int.reduceAdd, Int.cast_ofNat_Int, Int.toNat_natCast, Int.reduceLE, Int.reduceLT, Int.reduceToNat, Int.reduceEq, ↓reduceIte, i0, i3, hlen, d]
      refine GO_loop _ (fun n e' H'' => ∃ k : Nat, k + n = i ∧ (∀ y ∈ l.take k, y.ok = true → x.ok = true → x.e.n ≤ y.e.n) ∧ e' 0 = v ∧ e' 3 = .int .i64 (i : Int) ∧ e' 4 = .int .i64 (k : Int) ∧ H'' = H') ?_ i _ _ ?_
      · rintro n e' H'' ⟨k, hk, hq, j0, j3, j4, rfl⟩
        cases n with
        | zero =>
          have hk' : k = i := by omega
          subst hk'
          simp only [f53b0, go_sem, Nat.reduceAdd, Nat.reduceMul, Nat.reduceSub, Nat.reduceBEq, Nat.reduceEqDiff, Nat.reduceLeDiff, Nat.reduceLT, Nat.reduceBneDiff, Int.reduceAdd, Int.cast_ofNat_Int, Int.toNat_natCast, Int.reduceLE, Int.reduceLT, Int.reduceToNat, Int.reduceEq, ↓reduceIte, j0, j3, j4, lt_false, a1]
          exact ⟨m, by omega, k + 1, by omega, by rw [take_succ_of hx, pair_snoc]; exact ⟨hp, hq⟩, rfl⟩
        | succ n =>
          obtain ⟨y, hy, _⟩ := get_of_lt (show k < l.length by omega)
          obtain ⟨jd, wer, q, F⟩ := hv.at (by omega) Sl.len hy
          have d' := lt_true (show k < i by omega)
          have a1' := wrap_succ (show k < 1000000 by omega)
          have next : ∀ (hn : y.ok = true → x.ok = true → x.e.n ≤ y.e.n), ∀ z ∈ l.take (k + 1), z.ok = true → x.ok = true → x.e.n ≤ z.e.n := by
            intro hn z hz
            rw [take_succ_of hy, List.mem_append, List.mem_singleton] at hz
            rcases hz with hz | rfl
            · exact hq z hz
            · exact hn
          cases b1 : x.ok
          · simp only [f53b0, go_sem, Nat.reduceAdd, Nat.reduceMul, Nat.reduceSub, Nat.reduceBEq, Nat.reduceEqDiff, Nat.reduceLeDiff, Nat.reduceLT, Nat.reduceBneDiff, Int.reduceAdd, Int.cast_ofNat_Int, Int.toNat_natCast, Int.reduceLE, Int.reduceLT, Int.reduceToNat, Int.reduceEq, ↓reduceIte, j0, j3, j4, d', a1', E.adr, E.adr', E.cel, E.cel', E.all, E.all', E.part, E.part', E.part0, E.part0', E.one, E.one', E.one0, E.one0', F.adr, F.adr', F.cel, F.cel', F.all, F.all', F.part, F.part', F.part0, F.part0', F.one, F.one', F.one0, F.one0', b1]
            exact ⟨n, by omega, k + 1, by omega, by simp, rfl⟩
          · cases b2 : y.ok
            · simp only [f53b0, go_sem, Nat.reduceAdd, Nat.reduceMul, Nat.reduceSub, Nat.reduceBEq, Nat.reduceEqDiff, Nat.reduceLeDiff, Nat.reduceLT, Nat.reduceBneDiff, Int.reduceAdd, Int.cast_ofNat_Int, Int.toNat_natCast, Int.reduceLE, Int.reduceLT, Int.reduceToNat, Int.reduceEq, ↓reduceIte, j0, j3, j4, d', a1', E.adr, E.adr', E.cel, E.cel', E.all, E.all', E.part, E.part', E.part0, E.part0', E.one, E.one', E.one0, E.one0', F.adr, F.adr', F.cel, F.cel', F.all, F.all', F.part, F.part', F.part0, F.part0', F.one, F.one', F.one0, F.one0', b1, b2]
              refine ⟨n, by omega, k + 1, by omega, ?_, rfl⟩
              simpa [b1] using next (fun h => by rw [b2] at h; cases h)
            · by_cases hc : y.e.n < x.e.n
              · have d2 : decide (y.e.n < x.e.n) = true := by simp [hc]
                have b : decide (l.Pairwise fun a b => a.ok = true → b.ok = true → b.e.n ≤ a.e.n) = false := by
                  rw [decide_eq_false_iff_not, List.pairwise_iff_getElem]
                  intro h
                  have h3 := h k i (by omega) (by omega) (by omega)
                  rw [List.getElem?_eq_getElem (by omega)] at hx hy
                  simp only [Option.some.injEq] at hx hy
                  rw [hx, hy] at h3
                  have := h3 b2 b1
                  omega
                simp only [f53b0, go_sem, Nat.reduceAdd, Nat.reduceMul, Nat.reduceSub, Nat.reduceBEq, Nat.reduceEqDiff, Nat.reduceLeDiff, Nat.reduceLT, Nat.reduceBneDiff, Int.reduceAdd, Int.cast_ofNat_Int, Int.toNat_natCast, Int.reduceLE, Int.reduceLT, Int.reduceToNat, Int.reduceEq, ↓reduceIte, j0, j3, j4, d', a1', E.adr, E.adr', E.cel, E.cel', E.all, E.all', E.part, E.part', E.part0, E.part0', E.one, E.one', E.one0, E.one0', F.adr, F.adr', F.cel, F.cel', F.all, F.all', F.part, F.part', F.part0, F.part0', F.one, F.one', F.one0, F.one0', b1, b2, gt_iff_lt, d2, b, Nat.add_assoc]
              · have d2 : decide (y.e.n < x.e.n) = false := by simp [hc]
                simp only [f53b0, go_sem, Nat.reduceAdd, Nat.reduceMul, Nat.reduceSub, Nat.reduceBEq, Nat.reduceEqDiff, Nat.reduceLeDiff, Nat.reduceLT, Nat.reduceBneDiff, Int.reduceAdd, Int.cast_ofNat_Int, Int.toNat_natCast, Int.reduceLE, Int.reduceLT, Int.reduceToNat, Int.reduceEq, ↓reduceIte, j0, j3, j4, d', a1', E.adr, E.adr', E.cel, E.cel', E.all, E.all', E.part, E.part', E.part0, E.part0', E.one, E.one', E.one0, E.one0', F.adr, F.adr', F.cel, F.cel', F.all, F.all', F.part, F.part', F.part0, F.part0', F.one, F.one', F.one0, F.one0', b1, b2, gt_iff_lt, d2, Nat.add_assoc]
                refine ⟨n, by omega, k + 1, by omega, ?_, rfl⟩
                simpa [b1] using next (fun _ _ => by omega)
      · exact ⟨0, by omega, fun y hy => by simp at hy, by simp only [go_sem, Nat.reduceAdd, Nat.reduceMul, Nat.reduceSub, Nat.reduceBEq, Nat.reduceEqDiff, Nat.reduceLeDiff, Nat.reduceLT, Nat.reduceBneDiff, Int.reduceAdd, Int.cast_ofNat_Int, Int.toNat_natCast, Int.reduceLE, Int.reduceLT, Int.reduceToNat, Int.reduceEq, ↓reduceIte, i0], by simp only [go_sem, Nat.reduceAdd, Nat.reduceMul, Nat.reduceSub, Nat.reduceBEq, Nat.reduceEqDiff, Nat.reduceLeDiff, Nat.reduceLT, Nat.reduceBneDiff, Int.reduceAdd, Int.cast_ofNat_Int, Int.toNat_natCast, Int.reduceLE, Int.reduceLT, Int.reduceToNat, Int.reduceEq, ↓reduceIte, i3], by simp only [go_sem, Nat.reduceAdd, Nat.reduceMul, Nat.reduceSub, Nat.reduceBEq, Nat.reduceEqDiff, Nat.reduceLeDiff, Nat.reduceLT, Nat.reduceBneDiff, Int.reduceAdd, Int.cast_ofNat_Int, Int.toNat_natCast, Int.reduceLE, Int.reduceLT, Int.reduceToNat, Int.reduceEq, ↓reduceIte], rfl⟩
  · exact ⟨0, by omega, by simp, by simp only [go_sem, Nat.reduceAdd, Nat.reduceMul, Nat.reduceSub, Nat.reduceBEq, Nat.reduceEqDiff, Nat.reduceLeDiff, Nat.reduceLT, Nat.reduceBneDiff, Int.reduceAdd, Int.cast_ofNat_Int, Int.toNat_natCast, Int.reduceLE, Int.reduceLT, Int.reduceToNat, Int.reduceEq, ↓reduceIte], by simp only [go_sem, Nat.reduceAdd, Nat.reduceMul, Nat.reduceSub, Nat.reduceBEq, Nat.reduceEqDiff, Nat.reduceLeDiff, Nat.reduceLT, Nat.reduceBneDiff, Int.reduceAdd, Int.cast_ofNat_Int, Int.toNat_natCast, Int.reduceLE, Int.reduceLT, Int.reduceToNat, Int.reduceEq, ↓reduceIte], rfl⟩
theorem ev_IndexE (v : AV) (l : List En) (g : Nat) (caps : List AV) (p : En → Bool) (hv : Lst En.c 6 H v l) (hl : l.length < 1000000) (hp : ∀ x : En, ev (PX hook) H.length g (.agg x.c :: caps) H = some (.bool (p x), H)) :
    ev (PX hook) lim 107 [v, .fn g caps] H = some (.int .i64 (fIdx p 0 l), H) := by
  refine ev_own _ (PF t107) rfl (by decide) ?_
  have hlen := hv.len'
  simp only [f107, go_sem, Nat.reduceAdd, Nat.reduceMul, Nat.reduceSub, Nat.reduceBEq, Nat.reduceEqDiff, Nat.reduceLeDiff, Nat.reduceLT, Nat.reduceBneDiff, Int.reduceAdd, Int.cast_ofNat_Int, Int.toNat_natCast, Int.reduceLE, Int.reduceLT, Int.reduceToNat, Int.reduceEq, ↓reduceIte, hlen]
  refine GO_loop _ (fun m e H' => ∃ k : Nat, k + m = l.length ∧ fIdx p 0 l = fIdx p k (l.drop k) ∧ e 0 = v ∧ e 1 = .fn g caps ∧ e 7 = .int .i64 (l.length : Int) ∧ e 8 = .int .i64 (k : Int) ∧ H' = H) ?_ l.length _ _ ?_
  · rintro m e H' ⟨k, hk, hf, i0, i1, i7, i8, rfl⟩
    cases m with
    | zero =>
      have hk' : k = l.length := by omega
      subst hk'
      rw [List.drop_of_length_le (Nat.le_refl _)] at hf
      simp only [f107b0, go_sem, Nat.reduceAdd, Nat.reduceMul, Nat.reduceSub, Nat.reduceBEq, Nat.reduceEqDiff, Nat.reduceLeDiff, Nat.reduceLT, Nat.reduceBneDiff, Int.reduceAdd, Int.cast_ofNat_Int, Int.toNat_natCast, Int.reduceLE, Int.reduceLT, Int.reduceToNat, Int.reduceEq, ↓reduceIte, i0, i1, i7, i8, lt_false, hf, fIdx]
    | succ m =>
      obtain ⟨x, hx, hd⟩ := get_of_lt (show k < l.length by omega)
      obtain ⟨id, ver, q, E⟩ := hv.at (by omega) En.len hx
      have d := lt_true (show k < l.length by omega)
      have a1 := wrap_succ (show k < 1000000 by omega)
      have hpx := hp x
      rw [hd, fIdx] at hf
      cases hb : p x
      · rw [hb] at hpx hf
        simp only [f107b0, go_sem, Nat.reduceAdd, Nat.reduceMul, Nat.reduceSub, Nat.reduceBEq, Nat.reduceEqDiff, Nat.reduceLeDiff, Nat.reduceLT, Nat.reduceBneDiff, Int.reduceAdd, Int.cast_ofNat_Int, Int.toNat_natCast, Int.reduceLE, Int.reduceLT, Int.reduceToNat, Int.reduceEq, ↓reduceIte, i0, i1, i7, i8, d, a1, E.adr, E.adr', E.cel, E.cel', E.all, E.all', E.part, E.part', E.part0, E.part0', E.one, E.one', E.one0, E.one0', hpx]
        exact ⟨m, by omega, k + 1, by omega, hf, rfl⟩
      · rw [hb] at hpx hf
        simp only [f107b0, go_sem, Nat.reduceAdd, Nat.reduceMul, Nat.reduceSub, Nat.reduceBEq, Nat.reduceEqDiff, Nat.reduceLeDiff, Nat.reduceLT, Nat.reduceBneDiff, Int.reduceAdd, Int.cast_ofNat_Int, Int.toNat_natCast, Int.reduceLE, Int.reduceLT, Int.reduceToNat, Int.reduceEq, ↓reduceIte, i0, i1, i7, i8, d, a1, E.adr, E.adr', E.cel, E.cel', E.all, E.all', E.part, E.part', E.part0, E.part0', E.one, E.one', E.one0, E.one0', hpx]
        rw [hf]; simp
  · exact ⟨0, by omega, rfl, by simp only [go_sem, Nat.reduceAdd, Nat.reduceMul, Nat.reduceSub, Nat.reduceBEq, Nat.reduceEqDiff, Nat.reduceLeDiff, Nat.reduceLT, Nat.reduceBneDiff, Int.reduceAdd, Int.cast_ofNat_Int, Int.toNat_natCast, Int.reduceLE, Int.reduceLT, Int.reduceToNat, Int.reduceEq, ↓reduceIte], by simp only [go_sem, Nat.reduceAdd, Nat.reduceMul, Nat.reduceSub, Nat.reduceBEq, Nat.reduceEqDiff, Nat.reduceLeDiff, Nat.reduceLT, Nat.reduceBneDiff, Int.reduceAdd, Int.cast_ofNat_Int, Int.toNat_natCast, Int.reduceLE, Int.reduceLT, Int.reduceToNat, Int.reduceEq, ↓reduceIte], by simp only [go_sem, Nat.reduceAdd, Nat.reduceMul, Nat.reduceSub, Nat.reduceBEq, Nat.reduceEqDiff, Nat.reduceLeDiff, Nat.reduceLT, Nat.reduceBneDiff, Int.reduceAdd, Int.cast_ofNat_Int, Int.toNat_natCast, Int.reduceLE, Int.reduceLT, Int.reduceToNat, Int.reduceEq, ↓reduceIte], by simp only [go_sem, Nat.reduceAdd, Nat.reduceMul, Nat.reduceSub, Nat.reduceBEq, Nat.reduceEqDiff, Nat.reduceLeDiff, Nat.reduceLT, Nat.reduceBneDiff, Int.reduceAdd, Int.cast_ofNat_Int, Int.toNat_natCast, Int.reduceLE, Int.reduceLT, Int.reduceToNat, Int.reduceEq, ↓reduceIte], rfl⟩
theorem ev_Ordered1 (y x : En) (id ver o : Nat) (hb : ∀ L, loadV (H ++ L) true 6 (.ptr id ver o) = some (.agg x.c)) : ev (PX hook) lim 91 [.agg y.c, .ptr id ver o] H = some (.bool (x.above y), H) := by
  refine ev_own _ (PF t91) rfl (by decide) ?_
  simp only [f91, go_sem, Nat.reduceAdd, Nat.reduceMul, Nat.reduceSub, Nat.reduceBEq, Nat.reduceEqDiff, Nat.reduceLeDiff, Nat.reduceLT, Nat.reduceBneDiff, Int.reduceAdd, Int.cast_ofNat_Int, Int.toNat_natCast, Int.reduceLE, Int.reduceLT, Int.reduceToNat, Int.reduceEq, ↓reduceIte, hb, ev_EAbove]
theorem ev_Contains (v : AV) (l : List En) (g : Nat) (caps : List AV) (p : En → Bool) (hv : Lst En.c 6 H v l) (hl : l.length < 1000000) (hp : ∀ x : En, ev (PX hook) H.length g (.agg x.c :: caps) H = some (.bool (p x), H)) :
    ev (PX hook) lim 90 [v, .fn g caps] H = some (.bool (l.any p), H) := by
  refine ev_own _ (PF t90) rfl (by decide) ?_
  have h := ev_IndexE (hook := hook) (lim := H.length) v l g caps p hv hl hp
  have hb : decide (0 ≤ fIdx p 0 l) = l.any p := by
    rcases fIdx_cases p 0 l with ⟨h1, h2, h3⟩ | ⟨j, x, h1, h2, h3, h4, h5⟩
    · rw [h1]
      have : l.any p = false := by rw [List.any_eq_false]; intro x hx; rw [h3 x hx]; simp
      rw [this]; rfl
    · have h6 : l.any p = true := by rw [List.any_eq_true]; exact ⟨x, List.mem_of_getElem? h2, h4⟩
      rw [h1, h6, decide_eq_true_eq]; omega
  simp only [f90, go_sem, Nat.reduceAdd, Nat.reduceMul, Nat.reduceSub, Nat.reduceBEq, Nat.reduceEqDiff, Nat.reduceLeDiff, Nat.reduceLT, Nat.reduceBneDiff, Int.reduceAdd, Int.cast_ofNat_Int, Int.toNat_natCast, Int.reduceLE, Int.reduceLT, Int.reduceToNat, Int.reduceEq, ↓reduceIte, h, ge_iff_le, hb]
theorem ev_Ordered (v : AV) (l : List En) (hv : Lst En.c 6 H v l) (hl : l.length < 1000000) : ev (PX hook) lim 72 [v] H = some (.bool (ordered l), H) := by
  refine ev_own _ (PF t72) rfl (by decide) ?_
  have hlen := hv.len'
  simp only [f72, go_sem, Nat.reduceAdd, Nat.reduceMul, Nat.reduceSub, Nat.reduceBEq, Nat.reduceEqDiff, Nat.reduceLeDiff, Nat.reduceLT, Nat.reduceBneDiff, Int.reduceAdd, Int.cast_ofNat_Int, Int.toNat_natCast, Int.reduceLE, Int.reduceLT, Int.reduceToNat, Int.reduceEq, ↓reduceIte, hlen]
  refine GO_loop _ (fun m e H' => ∃ (k : Nat) (G : Heap), k + m = l.length ∧ (l.take k).Pairwise (fun a b => b.above a = false) ∧ e 0 = v ∧ e 5 = v ∧ e 6 = .int .i64 (l.length : Int) ∧ e 7 = .int .i64 (k : Int) ∧ H' = H ++ G) ?_ l.length _ _ ?_
  · rintro m e H' ⟨k, G, hk, hp, i0, i5, i6, i7, rfl⟩
    cases m with
    | zero =>
      have hk' : k = l.length := by omega
      subst hk'
      rw [List.take_length] at hp
      have b : ordered l = true := by unfold ordered; rw [decide_eq_true_eq]; exact hp
      simp only [f72b0, go_sem, Nat.reduceAdd, Nat.reduceMul, Nat.reduceSub, Nat.reduceBEq, Nat.reduceEqDiff, Nat.reduceLeDiff, Nat.reduceLT, Nat.reduceBneDiff, Int.reduceAdd, Int.cast_ofNat_Int, Int.toNat_natCast, Int.reduceLE, Int.reduceLT, Int.reduceToNat, Int.reduceEq, ↓reduceIte, i0, i5, i6, i7, lt_false, b]
    | succ m =>
      obtain ⟨x, hx, _⟩ := get_of_lt (show k < l.length by omega)
      obtain ⟨id, ver, p, E⟩ := hv.at (by omega) En.len hx
      have d := lt_true (show k < l.length by omega)
      have a1 := wrap_succ (show k < 1000000 by omega)
      obtain ⟨v', _, _, s3, _, s5⟩ := hv.sub En.len 0 k (by omega) (by omega)
      obtain ⟨s3, s4⟩ := s3 rfl
      rw [List.drop_zero] at s5
      have hc := ev_Contains (hook := hook) (lim := H.length) v' (l.take k) 91 [.ptr (H.length + G.length) 0 0] (fun y => x.above y) (s5.more (G ++ [Blk.rw 0 6 x.c])) (by rw [List.length_take]; omega)
        (fun y => ev_Ordered1 y x _ _ _ (fun L => by simp only [go_sem, Nat.reduceAdd, Nat.reduceMul, Nat.reduceSub, Nat.reduceBEq, Nat.reduceEqDiff, Nat.reduceLeDiff, Nat.reduceLT, Nat.reduceBneDiff, Int.reduceAdd, Int.cast_ofNat_Int, Int.toNat_natCast, Int.reduceLE, Int.reduceLT, Int.reduceToNat, Int.reduceEq, ↓reduceIte]))
      cases hb : (l.take k).any fun y => x.above y
      · rw [hb] at hc
        simp only [f72b0, go_sem, Nat.reduceAdd, Nat.reduceMul, Nat.reduceSub, Nat.reduceBEq, Nat.reduceEqDiff, Nat.reduceLeDiff, Nat.reduceLT, Nat.reduceBneDiff, Int.reduceAdd, Int.cast_ofNat_Int, Int.toNat_natCast, Int.reduceLE, Int.reduceLT, Int.reduceToNat, Int.reduceEq, ↓reduceIte, i0, i5, i6, i7, d, a1, E.adr, E.adr', E.cel, E.cel', E.all, E.all', E.part, E.part', E.part0, E.part0', E.one, E.one', E.one0, E.one0', s3, hc]
        refine ⟨m, by omega, k + 1, G ++ [Blk.rw 0 6 x.c], by omega, ?_, rfl, rfl⟩
        rw [take_succ_of hx, pair_snoc]
        refine ⟨hp, fun a ha => ?_⟩
        rw [List.any_eq_false] at hb
        simpa using hb a ha
      · rw [hb] at hc
        have b : ordered l = false := by
          unfold ordered; rw [decide_eq_false_iff_not]
          intro h
          have h2 := pair_take h (k + 1)
          rw [take_succ_of hx, pair_snoc] at h2
          obtain ⟨a, ha, hxa⟩ := List.any_eq_true.1 hb
          rw [h2.2 a ha] at hxa
          cases hxa
        simp only [f72b0, go_sem, Nat.reduceAdd, Nat.reduceMul, Nat.reduceSub, Nat.reduceBEq, Nat.reduceEqDiff, Nat.reduceLeDiff, Nat.reduceLT, Nat.reduceBneDiff, Int.reduceAdd, Int.cast_ofNat_Int, Int.toNat_natCast, Int.reduceLE, Int.reduceLT, Int.reduceToNat, Int.reduceEq, ↓reduceIte, i0, i5, i6, i7, d, a1, E.adr, E.adr', E.cel, E.cel', E.all, E.all', E.part, E.part', E.part0, E.part0', E.one, E.one', E.one0, E.one0', s3, hc, b]
  · exact ⟨0, [], by omega, by simp, by simp only [go_sem, Nat.reduceAdd, Nat.reduceMul, Nat.reduceSub, Nat.reduceBEq, Nat.reduceEqDiff, Nat.reduceLeDiff, Nat.reduceLT, Nat.reduceBneDiff, Int.reduceAdd, Int.cast_ofNat_Int, Int.toNat_natCast, Int.reduceLE, Int.reduceLT, Int.reduceToNat, Int.reduceEq, ↓reduceIte], by simp only [go_sem, Nat.reduceAdd, Nat.reduceMul, Nat.reduceSub, Nat.reduceBEq, Nat.reduceEqDiff, Nat.reduceLeDiff, Nat.reduceLT, Nat.reduceBneDiff, Int.reduceAdd, Int.cast_ofNat_Int, Int.toNat_natCast, Int.reduceLE, Int.reduceLT, Int.reduceToNat, Int.reduceEq, ↓reduceIte], by simp only [go_sem, Nat.reduceAdd, Nat.reduceMul, Nat.reduceSub, Nat.reduceBEq, Nat.reduceEqDiff, Nat.reduceLeDiff, Nat.reduceLT, Nat.reduceBneDiff, Int.reduceAdd, Int.cast_ofNat_Int, Int.toNat_natCast, Int.reduceLE, Int.reduceLT, Int.reduceToNat, Int.reduceEq, ↓reduceIte], by simp only [go_sem, Nat.reduceAdd, Nat.reduceMul, Nat.reduceSub, Nat.reduceBEq, Nat.reduceEqDiff, Nat.reduceLeDiff, Nat.reduceLT, Nat.reduceBneDiff, Int.reduceAdd, Int.cast_ofNat_Int, Int.toNat_natCast, Int.reduceLE, Int.reduceLT, Int.reduceToNat, Int.reduceEq, ↓reduceIte], by simp only [go_sem, Nat.reduceAdd, Nat.reduceMul, Nat.reduceSub, Nat.reduceBEq, Nat.reduceEqDiff, Nat.reduceLeDiff, Nat.reduceLT, Nat.reduceBneDiff, Int.reduceAdd, Int.cast_ofNat_Int, Int.toNat_natCast, Int.reduceLE, Int.reduceLT, Int.reduceToNat, Int.reduceEq, ↓reduceIte]⟩
theorem ev_caoKept (v : AV) (l : List Sl) (hv : Lst Sl.c 7 H v l) (hl : l.length < 1000000) : ev (PX hook) lim 37 [v] H = some (.bool (ordered (ents l)), H) := by
  refine ev_own _ (PF t37) rfl (by decide) ?_
  obtain ⟨v', L, he, hg⟩ := ev_Entries (hook := hook) (lim := H.length) v l hv hl
  have hs := ev_Ordered (hook := hook) (lim := H.length) v' (ents l) hg.lst (by have := ents_le l; omega)
  simp only [f37, go_sem, Nat.reduceAdd, Nat.reduceMul, Nat.reduceSub, Nat.reduceBEq, Nat.reduceEqDiff, Nat.reduceLeDiff, Nat.reduceLT, Nat.reduceBneDiff, Int.reduceAdd, Int.cast_ofNat_Int, Int.toNat_natCast, Int.reduceLE, Int.reduceLT, Int.reduceToNat, Int.reduceEq, ↓reduceIte, he, hs]
theorem ev_rOrdered (v : AV) (l : List En) (hv : Lst En.c 6 H v l) (hl : l.length < 1000000) : ev (PX hook) lim 35 [v] H = some (.bool (ordered l), H) := by
  refine ev_own _ (PF t35) rfl (by decide) ?_
  have hlen := hv.len'
  simp only [f35, go_sem, Nat.reduceAdd, Nat.reduceMul, Nat.reduceSub, Nat.reduceBEq, Nat.reduceEqDiff, Nat.reduceLeDiff, Nat.reduceLT, Nat.reduceBneDiff, Int.reduceAdd, Int.cast_ofNat_Int, Int.toNat_natCast, Int.reduceLE, Int.reduceLT, Int.reduceToNat, Int.reduceEq, ↓reduceIte]
  refine GO_loop _ (fun m e H' => ∃ i : Nat, i + m = l.length ∧ (∀ a b x y, a < i → a < b → l[a]? = some x → l[b]? = some y → y.above x = false) ∧ e 0 = v ∧ e 3 = .int .i64 (i : Int) ∧ H' = H) ?_ l.length _ _ ?_
  · rintro m e H' ⟨i, hi, hp, i0, i3, rfl⟩
    cases m with
    | zero =>
      have hi' : i = l.length := by omega
      subst hi'
      have b : ordered l = true := by
        unfold ordered
        rw [decide_eq_true_eq, List.pairwise_iff_getElem]
        intro a b ha hb hab
        exact hp a b _ _ ha hab (List.getElem?_eq_getElem ha) (List.getElem?_eq_getElem hb)
      simp only [f35b1, go_sem, Nat.reduceAdd, Nat.reduceMul, Nat.reduceSub, Nat.reduceBEq, Nat.reduceEqDiff, Nat.reduceLeDiff, Nat.reduceLT, Nat.reduceBneDiff, Int.reduceAdd, Int.cast_ofNat_Int, Int.toNat_natCast, Int.reduceLE, Int.reduceLT, Int.reduceToNat, Int.reduceEq, ↓reduceIte, i0, i3, hlen, lt_false, b]
    | succ m =>
      obtain ⟨x, hx, _⟩ := get_of_lt (show i < l.length by omega)
      obtain ⟨id, ver, p, E⟩ := hv.at (by omega) En.len hx
      have d := lt_true (show i < l.length by omega)
      have a1 := wrap_succ (show i < 1000000 by omega)
      simp only [f35b1, go_sem, Nat.reduceAdd, Nat.reduceMul, Nat.reduceSub, Nat.reduceBEq, Nat.reduceEqDiff, Nat.reduceLeDiff, Nat.reduceLT, Nat.reduceBneDiff, Int.reduceAdd, Int.cast_ofNat_Int, Int.toNat_natCast, Int.reduceLE, Int.reduceLT, Int.reduceToNat, Int.reduceEq, ↓reduceIte, i0, i3, hlen, d, a1]
      refine GO_loop _ (fun n e' H'' => ∃ k : Nat, k + n = l.length ∧ i < k ∧ (∀ b y, i < b → b < k → l[b]? = some y → y.above x = false) ∧ e' 0 = v ∧ e' 3 = .int .i64 (i : Int) ∧ e' 4 = .int .i64 (k : Int) ∧ H'' = H') ?_ (l.length - (i + 1)) _ _ ?_
      · rintro n e' H'' ⟨k, hk, hik, hq, j0, j3, j4, rfl⟩
        cases n with
        | zero =>
          have hk' : k = l.length := by omega
          subst hk'
          simp only [f35b0, go_sem, Nat.reduceAdd, Nat.reduceMul, Nat.reduceSub, Nat.reduceBEq, Nat.reduceEqDiff, Nat.reduceLeDiff, Nat.reduceLT, Nat.reduceBneDiff, Int.reduceAdd, Int.cast_ofNat_Int, Int.toNat_natCast, Int.reduceLE, Int.reduceLT, Int.reduceToNat, Int.reduceEq, ↓reduceIte, j0, j3, j4, hlen, lt_false, a1]
          refine ⟨m, by omega, i + 1, by omega, fun a b x' y ha hab hx' hy => ?_, rfl⟩
          by_cases e : a = i
          · subst e
            rw [hx] at hx'; cases hx'
            exact hq b y hab (List.getElem?_eq_some_iff.1 hy).1 hy
          · exact hp a b x' y (by omega) hab hx' hy
        | succ n =>
          obtain ⟨y, hy, _⟩ := get_of_lt (show k < l.length by omega)
          obtain ⟨jd, wer, q, F⟩ := hv.at (by omega) En.len hy
          have d' := lt_true (show k < l.length by omega)
          have a1' := wrap_succ (show k < 1000000 by omega)
          cases hb : y.above x
          · simp only [f35b0, go_sem, Nat.reduceAdd, Nat.reduceMul, Nat.reduceSub, Nat.reduceBEq, Nat.reduceEqDiff, Nat.reduceLeDiff, Nat.reduceLT, Nat.reduceBneDiff, Int.reduceAdd, Int.cast_ofNat_Int, Int.toNat_natCast, Int.reduceLE, Int.reduceLT, Int.reduceToNat, Int.reduceEq, ↓reduceIte, j0, j3, j4, hlen, d', a1', E.adr, E.adr', E.cel, E.cel', E.all, E.all', E.part, E.part', E.part0, E.part0', E.one, E.one', E.one0, E.one0', F.adr, F.adr', F.cel, F.cel', F.all, F.all', F.part, F.part', F.part0, F.part0', F.one, F.one', F.one0, F.one0', ev_rAbove, hb]
            refine ⟨n, by omega, k + 1, by omega, by omega, fun b z hb1 hb2 hz => ?_, rfl⟩
            by_cases e : b = k
            · subst e
              rw [hy] at hz; cases hz; exact hb
            · exact hq b z hb1 (by omega) hz
          · have b : ordered l = false := by
              unfold ordered
              rw [decide_eq_false_iff_not, List.pairwise_iff_getElem]
              intro h
              have h3 := h i k (by omega) (by omega) hik
              rw [List.getElem?_eq_getElem (by omega)] at hx hy
              simp only [Option.some.injEq] at hx hy
              rw [hx, hy, hb] at h3
              cases h3
            simp only [f35b0, go_sem, Nat.reduceAdd, Nat.reduceMul, Nat.reduceSub, Nat.reduceBEq, Nat.reduceEqDiff, Nat.reduceLeDiff, Nat.reduceLT, Nat.reduceBneDiff, Int.reduceAdd, Int.cast_ofNat_Int, Int.toNat_natCast, Int.reduceLE, Int.reduceLT, Int.reduceToNat, Int.reduceEq, ↓reduceIte, j0, j3, j4, hlen, d', a1', E.adr, E.adr', E.cel, E.cel', E.all, E.all', E.part, E.part', E.part0, E.part0', E.one, E.one', E.one0, E.one0', F.adr, F.adr', F.cel, F.cel', F.all, F.all', F.part, F.part', F.part0, F.part0', F.one, F.one', F.one0, F.one0', ev_rAbove, hb, b]
      · exact ⟨i + 1, by omega, by omega, fun b y h1 h2 => by omega, by simp only [go_sem, Nat.reduceAdd, Nat.reduceMul, Nat.reduceSub, Nat.reduceBEq, Nat.reduceEqDiff, Nat.reduceLeDiff, Nat.reduceLT, Nat.reduceBneDiff, Int.reduceAdd, Int.cast_ofNat_Int, Int.toNat_natCast, Int.reduceLE, Int.reduceLT, Int.reduceToNat, Int.reduceEq, ↓reduceIte, i0], by simp only [go_sem, Nat.reduceAdd, Nat.reduceMul, Nat.reduceSub, Nat.reduceBEq, Nat.reduceEqDiff, Nat.reduceLeDiff, Nat.reduceLT, Nat.reduceBneDiff, Int.reduceAdd, Int.cast_ofNat_Int, Int.toNat_natCast, Int.reduceLE, Int.reduceLT, Int.reduceToNat, Int.reduceEq, ↓reduceIte, i3], by simp only [go_sem, Nat.reduceAdd, Nat.reduceMul, Nat.reduceSub, Nat.reduceBEq, Nat.reduceEqDiff, Nat.reduceLeDiff, Nat.reduceLT, Nat.reduceBneDiff, Int.reduceAdd, Int.cast_ofNat_Int, Int.toNat_natCast, Int.reduceLE, Int.reduceLT, Int.reduceToNat, Int.reduceEq, ↓reduceIte], rfl⟩
  · exact ⟨0, by omega, fun a b x y h => by omega, by simp only [go_sem, Nat.reduceAdd, Nat.reduceMul, Nat.reduceSub, Nat.reduceBEq, Nat.reduceEqDiff, Nat.reduceLeDiff, Nat.reduceLT, Nat.reduceBneDiff, Int.reduceAdd, Int.cast_ofNat_Int, Int.toNat_natCast, Int.reduceLE, Int.reduceLT, Int.reduceToNat, Int.reduceEq, ↓reduceIte], by simp only [go_sem, Nat.reduceAdd, Nat.reduceMul, Nat.reduceSub, Nat.reduceBEq, Nat.reduceEqDiff, Nat.reduceLeDiff, Nat.reduceLT, Nat.reduceBneDiff, Int.reduceAdd, Int.cast_ofNat_Int, Int.toNat_natCast, Int.reduceLE, Int.reduceLT, Int.reduceToNat, Int.reduceEq, ↓reduceIte], rfl⟩
end Go.Proofs.Ytmjanbhmpbhagaa.C
