/- THE ORDER OF LENGTHS: where an entry may stand, which slots are free: both sides. Conditions: the slices show what is told. -/
import Derived.Test.YtmjanbhmpbhagaaLcS
set_option linter.unusedVariables false
set_option linter.unusedSimpArgs false
namespace Go.AM
theorem Elem.n5 {H : Heap} {v : AV} {k : Nat} {s : Sl} {id ver p : Nat} (E : Elem Sl.c 7 H v k s id ver p) (L : Heap) : loadV (H ++ L) false 1 (.ptr id ver (p + 1 + 4)) = some (.int .i64 s.e.n) := by rw [Nat.add_assoc, E.one L (1 + 4) (by omega)]; rfl
theorem Elem.n5' {H : Heap} {v : AV} {k : Nat} {s : Sl} {id ver p : Nat} (E : Elem Sl.c 7 H v k s id ver p) : loadV H false 1 (.ptr id ver (p + 1 + 4)) = some (.int .i64 s.e.n) := by rw [Nat.add_assoc, E.one' (1 + 4) (by omega)]; rfl
theorem Elem.x6 {H : Heap} {v : AV} {k : Nat} {s : Sl} {id ver p : Nat} (E : Elem Sl.c 7 H v k s id ver p) (L : Heap) : loadV (H ++ L) false 1 (.ptr id ver (p + 1 + 5)) = some (.int .i64 s.e.x) := by rw [Nat.add_assoc, E.one L (1 + 5) (by omega)]; rfl
theorem Elem.x6' {H : Heap} {v : AV} {k : Nat} {s : Sl} {id ver p : Nat} (E : Elem Sl.c 7 H v k s id ver p) : loadV H false 1 (.ptr id ver (p + 1 + 5)) = some (.int .i64 s.e.x) := by rw [Nat.add_assoc, E.one' (1 + 5) (by omega)]; rfl
theorem frees_zero {l : List Sl} : (l.length : Int) - (ents l).length = 0 ↔ frees l 0 l.length = [] := by
  have key : ∀ (m : List Sl) (k : Nat), (∀ i s, m[i]? = some s → l[k + i]? = some s) → (ents m).length ≤ m.length ∧ ((ents m).length = m.length ↔ frees l k (k + m.length) = []) := by
    intro m
    induction m with
    | nil => intro k _; simp [ents, frees_self]
    | cons s m ih =>
      intro k hk
      have hs : l[k]? = some s := hk 0 s rfl
      obtain ⟨h1, h2⟩ := ih (k + 1) (fun i t ht => by rw [show k + 1 + i = k + (i + 1) by omega]; exact hk (i + 1) t ht)
      have hsp := frees_split l (show k ≤ k + 1 by omega) (show k + 1 ≤ k + (s :: m).length by simp)
      rw [frees_one hs, show k + (s :: m).length = k + 1 + m.length by simp; omega] at hsp
      rw [show k + (s :: m).length = k + 1 + m.length by simp; omega, hsp]
      cases b : s.ok
      · have : ents (s :: m) = ents m := by simp [ents, b]
        rw [this]
        simp
        omega
      · have : ents (s :: m) = s.e :: ents m := by simp [ents, b]
        rw [this]
        simp only [List.length_cons, if_true, List.nil_append]
        exact ⟨by omega, by rw [← h2]; omega⟩
  obtain ⟨h1, h2⟩ := key l 0 (fun i s h => by rw [Nat.zero_add]; exact h)
  rw [Nat.zero_add] at h2
  rw [← h2]
  omega
def longP (n : Int) (s : Sl) : Bool := s.ok && decide (n < s.e.n)
def shortP (n : Int) (s : Sl) : Bool := s.ok && decide (s.e.n < n)
def fromN (l : List Sl) (n : Int) : Nat := lastN (longP n) l l.length
def toN (l : List Sl) (n : Int) : Nat := firstN (shortP n) l l.length 0
theorem fromN_le (l : List Sl) (n : Int) : fromN l n ≤ l.length := lastN_le _ _ _
theorem toN_le (l : List Sl) (n : Int) : toN l n ≤ l.length := firstN_le _ _ _ _ (Nat.zero_le _)
theorem longs_at {l : List Sl} (h : longs (ents l) = true) {i j : Nat} {a b : Sl} (hij : i < j) (ha : l[i]? = some a) (hb : l[j]? = some b) (oa : a.ok = true) (ob : b.ok = true) : b.e.n ≤ a.e.n := by
  rw [longs_ents, decide_eq_true_eq] at h
  obtain ⟨h1, e1⟩ := List.getElem?_eq_some_iff.1 ha
  obtain ⟨h2, e2⟩ := List.getElem?_eq_some_iff.1 hb
  have := (List.pairwise_iff_getElem.1 h) i j h1 h2 hij
  rw [e1, e2] at this
  exact this oa ob
theorem gap_le {l : List Sl} (h : longs (ents l) = true) (n : Int) : fromN l n ≤ toN l n := by
  apply Classical.byContradiction
  intro hlt
  have hle := fromN_le l n
  have htl := toN_le l n
  obtain ⟨t, ht, pt⟩ := firstN_at (shortP n) l l.length 0 (by omega) (show toN l n < l.length by omega)
  obtain ⟨j, hj⟩ : ∃ j, fromN l n = j + 1 := ⟨fromN l n - 1, by omega⟩
  obtain ⟨f, hf, pf⟩ := lastN_at (longP n) l l.length j hj
  simp only [shortP, longP, Bool.and_eq_true, decide_eq_true_eq] at pt pf
  rcases Nat.lt_or_ge (toN l n) j with h1 | h1
  · have := longs_at h h1 ht hf pt.1 pf.1
    omega
  · have : toN l n = j := by omega
    unfold toN at this
    rw [this] at ht
    rw [ht] at hf; cases hf; omega
theorem toN_true {l : List Sl} {n : Int} {i : Nat} {s : Sl} (hs : l[i]? = some s) (hp : shortP n s = true) : toN l n ≤ i := by
  apply Classical.byContradiction
  intro h
  have := firstN_not (shortP n) l l.length 0 i s (Nat.zero_le _) (by unfold toN at h; omega) hs
  rw [hp] at this; cases this
theorem toN_ne {l : List Sl} {n : Int} {i : Nat} {s : Sl} (hs : l[i]? = some s) (hp : shortP n s = false) : toN l n ≠ i := by
  intro h
  have hi := (List.getElem?_eq_some_iff.1 hs).1
  obtain ⟨t, ht, pt⟩ := firstN_at (shortP n) l l.length 0 (by omega) (show toN l n < l.length by omega)
  unfold toN at h
  rw [h, hs] at ht; cases ht
  rw [hp] at pt; cases pt
end Go.AM
namespace Go.Proofs.Ytmjanbhmpbhagaa.C
open Go.AM
variable {hook : Nat → Nat → List AV → Heap → Option (AV × Heap)} {lim : Nat} {H : Heap}
theorem ev_ploGap (v : AV) (l : List Sl) (n : Int) (hv : Lst Sl.c 7 H v l) (hl : l.length < 1000000) (hk : longs (ents l) = true) : ev (PX hook) lim 100 [v, .int .i64 n] H = some (.tup [.int .i64 (fromN l n : Int), .int .i64 (toN l n : Int)], H) := by
  refine ev_own _ (PF t100) rfl (by decide) ?_
  have hlen := hv.len'
  have hkept := ev_ploKept (hook := hook) (lim := H.length) v l hv hl
  rw [hk] at hkept
  simp only [f100, go_sem, Nat.reduceAdd, Nat.reduceMul, Nat.reduceSub, Nat.reduceBEq, Nat.reduceEqDiff, Nat.reduceLeDiff, Nat.reduceLT, Nat.reduceBneDiff, Int.reduceAdd, Int.cast_ofNat_Int, Int.toNat_natCast, Int.reduceLE, Int.reduceLT, Int.reduceToNat, Int.reduceEq, ↓reduceIte, hlen, hkept]
  refine GO_loop _ (fun m e H' => ∃ (i : Nat) (G : Heap), i + m = l.length ∧ e 6 = .int .i64 (lastN (longP n) l i : Int) ∧ e 7 = .int .i64 ((if toN l n < i then toN l n else l.length : Nat) : Int) ∧ e 1 = .int .i64 n ∧ e 15 = v ∧ e 16 = .int .i64 (l.length : Int) ∧ e 17 = .int .i64 (i : Int) ∧ H' = H ++ G) ?_ l.length _ _ ?_
  · rintro m e H' ⟨i, G, hi, i6, i7, i1, i15, i16, i17, rfl⟩
    cases m with
    | zero =>
      have hi' : i = l.length := by omega
      subst hi'
      have ht : (if toN l n < l.length then toN l n else l.length) = toN l n := by
        have := toN_le l n
        split <;> omega
      rw [ht] at i7
      simp only [f100b0, go_sem, Nat.reduceAdd, Nat.reduceMul, Nat.reduceSub, Nat.reduceBEq, Nat.reduceEqDiff, Nat.reduceLeDiff, Nat.reduceLT, Nat.reduceBneDiff, Int.reduceAdd, Int.cast_ofNat_Int, Int.toNat_natCast, Int.reduceLE, Int.reduceLT, Int.reduceToNat, Int.reduceEq, ↓reduceIte, i1, i6, i7, i15, i16, i17, lt_false, fromN]
    | succ m =>
      obtain ⟨s, hs, _⟩ := get_of_lt (show i < l.length by omega)
      obtain ⟨id, ver, q, E⟩ := hv.at (by omega) Sl.len hs
      have w5 := E.n5
      have w5' := E.n5'
      have d := lt_true (show i < l.length by omega)
      have a1 := wrap_succ (show i < 1000000 by omega)
      have hf : lastN (longP n) l (i + 1) = if longP n s = true then i + 1 else lastN (longP n) l i := by rw [lastN, hs]
      have htl := toN_le l n
      have hmin : ∀ b, shortP n s = b → (if b = true then min ((if toN l n < i then toN l n else l.length : Nat) : Int) (i : Int) else ((if toN l n < i then toN l n else l.length : Nat) : Int)) = ((if toN l n < i + 1 then toN l n else l.length : Nat) : Int) := by
        intro b hb
        cases b
        · have := toN_ne hs hb
          simp only [Bool.false_eq_true, if_false]
          split <;> split <;> omega
        · have := toN_true hs hb
          simp only [if_true]
          split <;> split <;> omega
      cases b1 : s.ok
      · have p1 : longP n s = false := by rw [longP, b1]; rfl
        have p2 : shortP n s = false := by rw [shortP, b1]; rfl
        rw [p1, if_neg (by simp)] at hf
        have hm := hmin _ p2
        simp only [Bool.false_eq_true, if_false] at hm
        simp only [f100b0, go_sem, Nat.reduceAdd, Nat.reduceMul, Nat.reduceSub, Nat.reduceBEq, Nat.reduceEqDiff, Nat.reduceLeDiff, Nat.reduceLT, Nat.reduceBneDiff, Int.reduceAdd, Int.cast_ofNat_Int, Int.toNat_natCast, Int.reduceLE, Int.reduceLT, Int.reduceToNat, Int.reduceEq, ↓reduceIte, i1, i6, i7, i15, i16, i17, d, a1, E.adr, E.adr', E.cel, E.cel', E.all, E.all', E.part, E.part', E.part0, E.part0', E.one, E.one', E.one0, E.one0', b1]
        exact ⟨m, by omega, i + 1, _, by omega, by rw [hf], by rw [hm], rfl, rfl⟩
      · have p1 : longP n s = decide (n < s.e.n) := by rw [longP, b1]; rfl
        have p2 : shortP n s = decide (s.e.n < n) := by rw [shortP, b1]; rfl
        cases b2 : decide (n < s.e.n)
        · cases b3 : decide (s.e.n < n)
          · rw [p1, b2, if_neg (by simp)] at hf
            have hm := hmin _ (p2.trans b3)
            simp only [Bool.false_eq_true, if_false] at hm
            simp only [f100b0, go_sem, Nat.reduceAdd, Nat.reduceMul, Nat.reduceSub, Nat.reduceBEq, Nat.reduceEqDiff, Nat.reduceLeDiff, Nat.reduceLT, Nat.reduceBneDiff, Int.reduceAdd, Int.cast_ofNat_Int, Int.toNat_natCast, Int.reduceLE, Int.reduceLT, Int.reduceToNat, Int.reduceEq, ↓reduceIte, i1, i6, i7, i15, i16, i17, d, a1, E.adr, E.adr', E.cel, E.cel', E.all, E.all', E.part, E.part', E.part0, E.part0', E.one, E.one', E.one0, E.one0', b1, w5, w5', gt_iff_lt, b2, b3]
            exact ⟨m, by omega, i + 1, _, by omega, by rw [hf], by rw [hm], rfl, rfl⟩
          · rw [p1, b2, if_neg (by simp)] at hf
            have hm := hmin _ (p2.trans b3)
            simp only [if_true] at hm
            simp only [f100b0, go_sem, Nat.reduceAdd, Nat.reduceMul, Nat.reduceSub, Nat.reduceBEq, Nat.reduceEqDiff, Nat.reduceLeDiff, Nat.reduceLT, Nat.reduceBneDiff, Int.reduceAdd, Int.cast_ofNat_Int, Int.toNat_natCast, Int.reduceLE, Int.reduceLT, Int.reduceToNat, Int.reduceEq, ↓reduceIte, i1, i6, i7, i15, i16, i17, d, a1, E.adr, E.adr', E.cel, E.cel', E.all, E.all', E.part, E.part', E.part0, E.part0', E.one, E.one', E.one0, E.one0', b1, w5, w5', gt_iff_lt, b2, b3]
            exact ⟨m, by omega, i + 1, _, by omega, by rw [hf], by rw [hm], rfl, rfl⟩
        · have b3 : decide (s.e.n < n) = false := by
            rw [decide_eq_true_eq] at b2; rw [decide_eq_false_iff_not]; omega
          rw [p1, b2, if_pos (by simp)] at hf
          have hm := hmin _ (p2.trans b3)
          simp only [Bool.false_eq_true, if_false] at hm
          simp only [f100b0, go_sem, Nat.reduceAdd, Nat.reduceMul, Nat.reduceSub, Nat.reduceBEq, Nat.reduceEqDiff, Nat.reduceLeDiff, Nat.reduceLT, Nat.reduceBneDiff, Int.reduceAdd, Int.cast_ofNat_Int, Int.toNat_natCast, Int.reduceLE, Int.reduceLT, Int.reduceToNat, Int.reduceEq, ↓reduceIte, i1, i6, i7, i15, i16, i17, d, a1, E.adr, E.adr', E.cel, E.cel', E.all, E.all', E.part, E.part', E.part0, E.part0', E.one, E.one', E.one0, E.one0', b1, w5, w5', gt_iff_lt, b2, b3]
          exact ⟨m, by omega, i + 1, _, by omega, by rw [hf], by rw [hm], rfl, rfl⟩
  · exact ⟨0, [], by omega, by simp only [go_sem, Nat.reduceAdd, Nat.reduceMul, Nat.reduceSub, Nat.reduceBEq, Nat.reduceEqDiff, Nat.reduceLeDiff, Nat.reduceLT, Nat.reduceBneDiff, Int.reduceAdd, Int.cast_ofNat_Int, Int.toNat_natCast, Int.reduceLE, Int.reduceLT, Int.reduceToNat, Int.reduceEq, ↓reduceIte]; rfl, by simp only [go_sem, Nat.reduceAdd, Nat.reduceMul, Nat.reduceSub, Nat.reduceBEq, Nat.reduceEqDiff, Nat.reduceLeDiff, Nat.reduceLT, Nat.reduceBneDiff, Int.reduceAdd, Int.cast_ofNat_Int, Int.toNat_natCast, Int.reduceLE, Int.reduceLT, Int.reduceToNat, Int.reduceEq, ↓reduceIte]; simp, by simp only [go_sem, Nat.reduceAdd, Nat.reduceMul, Nat.reduceSub, Nat.reduceBEq, Nat.reduceEqDiff, Nat.reduceLeDiff, Nat.reduceLT, Nat.reduceBneDiff, Int.reduceAdd, Int.cast_ofNat_Int, Int.toNat_natCast, Int.reduceLE, Int.reduceLT, Int.reduceToNat, Int.reduceEq, ↓reduceIte], by simp only [go_sem, Nat.reduceAdd, Nat.reduceMul, Nat.reduceSub, Nat.reduceBEq, Nat.reduceEqDiff, Nat.reduceLeDiff, Nat.reduceLT, Nat.reduceBneDiff, Int.reduceAdd, Int.cast_ofNat_Int, Int.toNat_natCast, Int.reduceLE, Int.reduceLT, Int.reduceToNat, Int.reduceEq, ↓reduceIte], by simp only [go_sem, Nat.reduceAdd, Nat.reduceMul, Nat.reduceSub, Nat.reduceBEq, Nat.reduceEqDiff, Nat.reduceLeDiff, Nat.reduceLT, Nat.reduceBneDiff, Int.reduceAdd, Int.cast_ofNat_Int, Int.toNat_natCast, Int.reduceLE, Int.reduceLT, Int.reduceToNat, Int.reduceEq, ↓reduceIte], by simp only [go_sem, Nat.reduceAdd, Nat.reduceMul, Nat.reduceSub, Nat.reduceBEq, Nat.reduceEqDiff, Nat.reduceLeDiff, Nat.reduceLT, Nat.reduceBneDiff, Int.reduceAdd, Int.cast_ofNat_Int, Int.toNat_natCast, Int.reduceLE, Int.reduceLT, Int.reduceToNat, Int.reduceEq, ↓reduceIte], by simp⟩
theorem ev_rploGap (v : AV) (l : List Sl) (n : Int) (hv : Lst Sl.c 7 H v l) (hl : l.length < 1000000) : ev (PX hook) lim 78 [v, .int .i64 n] H = some (.tup [.int .i64 (fromN l n : Int), .int .i64 (toN l n : Int)], H) := by
  refine ev_own _ (PF t78) rfl (by decide) ?_
  have hlen := hv.len'
  simp only [f78, go_sem, Nat.reduceAdd, Nat.reduceMul, Nat.reduceSub, Nat.reduceBEq, Nat.reduceEqDiff, Nat.reduceLeDiff, Nat.reduceLT, Nat.reduceBneDiff, Int.reduceAdd, Int.cast_ofNat_Int, Int.toNat_natCast, Int.reduceLE, Int.reduceLT, Int.reduceToNat, Int.reduceEq, ↓reduceIte]
  refine GO_loop _ (fun m e H' => ∃ i : Nat, i + m = l.length ∧ e 6 = .int .i64 (lastN (longP n) l i : Int) ∧ e 0 = v ∧ e 1 = .int .i64 n ∧ e 7 = .int .i64 (i : Int) ∧ H' = H) ?_ l.length _ _ ?_
  · rintro m e H' ⟨i, hi, i6, i0, i1, i7, rfl⟩
    cases m with
    | zero =>
      have hi' : i = l.length := by omega
      subst hi'
      have a0 : IntKind.wrap .i64 ((l.length : Int) - 1) = (l.length : Int) - 1 := by rw [wrap_i64] <;> omega
      simp only [f78b0, go_sem, Nat.reduceAdd, Nat.reduceMul, Nat.reduceSub, Nat.reduceBEq, Nat.reduceEqDiff, Nat.reduceLeDiff, Nat.reduceLT, Nat.reduceBneDiff, Int.reduceAdd, Int.cast_ofNat_Int, Int.toNat_natCast, Int.reduceLE, Int.reduceLT, Int.reduceToNat, Int.reduceEq, ↓reduceIte, i0, i1, i6, i7, hlen, lt_false, a0]
      refine GO_loop _ (fun n' e' H'' => ∃ k : Nat, k = n' ∧ k ≤ l.length ∧ e' 8 = .int .i64 (firstN (shortP n) l (l.length - k) k : Int) ∧ e' 6 = .int .i64 (lastN (longP n) l l.length : Int) ∧ e' 0 = v ∧ e' 1 = .int .i64 n ∧ e' 9 = .int .i64 ((k : Int) - 1) ∧ H'' = H') ?_ l.length _ _ ?_
      · rintro n' e' H'' ⟨k, rfl, hk, j8, j6, j0, j1, j9, rfl⟩
        cases k with
        | zero =>
          have d : decide ((0 : Int) ≤ -1) = false := by decide
          have e1 : ((0 : Nat) : Int) - 1 = -1 := rfl
          rw [e1] at j9
          rw [Nat.sub_zero] at j8
          simp only [f78b1, go_sem, Nat.reduceAdd, Nat.reduceMul, Nat.reduceSub, Nat.reduceBEq, Nat.reduceEqDiff, Nat.reduceLeDiff, Nat.reduceLT, Nat.reduceBneDiff, Int.reduceAdd, Int.cast_ofNat_Int, Int.toNat_natCast, Int.reduceLE, Int.reduceLT, Int.reduceToNat, Int.reduceEq, ↓reduceIte, j0, j1, j6, j8, j9, ge_iff_le, d, fromN, toN]
        | succ k =>
          obtain ⟨s, hs, _⟩ := get_of_lt (show k < l.length by omega)
          obtain ⟨id, ver, q, E⟩ := hv.at (by omega) Sl.len hs
          have w5 := E.n5
          have w5' := E.n5'
          have e1 : ((k + 1 : Nat) : Int) - 1 = (k : Int) := by omega
          rw [e1] at j9
          have d : decide ((0 : Int) ≤ (k : Int)) = true := by rw [decide_eq_true_eq]; omega
          have a1 : IntKind.wrap .i64 ((k : Int) - 1) = (k : Int) - 1 := by rw [wrap_i64] <;> omega
          have hf : firstN (shortP n) l (l.length - k) k = if shortP n s = true then k else firstN (shortP n) l (l.length - (k + 1)) (k + 1) := by
            rw [show l.length - k = (l.length - (k + 1)) + 1 by omega, firstN, hs]
          cases b1 : s.ok
          · rw [shortP, b1, Bool.false_and, if_neg (by simp)] at hf
            simp only [f78b1, go_sem, Nat.reduceAdd, Nat.reduceMul, Nat.reduceSub, Nat.reduceBEq, Nat.reduceEqDiff, Nat.reduceLeDiff, Nat.reduceLT, Nat.reduceBneDiff, Int.reduceAdd, Int.cast_ofNat_Int, Int.toNat_natCast, Int.reduceLE, Int.reduceLT, Int.reduceToNat, Int.reduceEq, ↓reduceIte, j0, j1, j6, j8, j9, ge_iff_le, d, a1, E.adr, E.adr', E.cel, E.cel', E.all, E.all', E.part, E.part', E.part0, E.part0', E.one, E.one', E.one0, E.one0', b1]
            exact ⟨k, by omega, k, rfl, by omega, by rw [hf], rfl⟩
          · cases b2 : decide (s.e.n < n)
            · rw [shortP, b1, b2, if_neg (by simp)] at hf
              simp only [f78b1, go_sem, Nat.reduceAdd, Nat.reduceMul, Nat.reduceSub, Nat.reduceBEq, Nat.reduceEqDiff, Nat.reduceLeDiff, Nat.reduceLT, Nat.reduceBneDiff, Int.reduceAdd, Int.cast_ofNat_Int, Int.toNat_natCast, Int.reduceLE, Int.reduceLT, Int.reduceToNat, Int.reduceEq, ↓reduceIte, j0, j1, j6, j8, j9, ge_iff_le, d, a1, E.adr, E.adr', E.cel, E.cel', E.all, E.all', E.part, E.part', E.part0, E.part0', E.one, E.one', E.one0, E.one0', b1, w5, w5', b2]
              exact ⟨k, by omega, k, rfl, by omega, by rw [hf], rfl⟩
            · rw [shortP, b1, b2, if_pos (by simp)] at hf
              simp only [f78b1, go_sem, Nat.reduceAdd, Nat.reduceMul, Nat.reduceSub, Nat.reduceBEq, Nat.reduceEqDiff, Nat.reduceLeDiff, Nat.reduceLT, Nat.reduceBneDiff, Int.reduceAdd, Int.cast_ofNat_Int, Int.toNat_natCast, Int.reduceLE, Int.reduceLT, Int.reduceToNat, Int.reduceEq, ↓reduceIte, j0, j1, j6, j8, j9, ge_iff_le, d, a1, E.adr, E.adr', E.cel, E.cel', E.all, E.all', E.part, E.part', E.part0, E.part0', E.one, E.one', E.one0, E.one0', b1, w5, w5', b2]
              exact ⟨k, by omega, k, rfl, by omega, by rw [hf], rfl⟩
      · refine ⟨l.length, rfl, Nat.le_refl _, ?_, by simp only [go_sem, Nat.reduceAdd, Nat.reduceMul, Nat.reduceSub, Nat.reduceBEq, Nat.reduceEqDiff, Nat.reduceLeDiff, Nat.reduceLT, Nat.reduceBneDiff, Int.reduceAdd, Int.cast_ofNat_Int, Int.toNat_natCast, Int.reduceLE, Int.reduceLT, Int.reduceToNat, Int.reduceEq, ↓reduceIte, i6], by simp only [go_sem, Nat.reduceAdd, Nat.reduceMul, Nat.reduceSub, Nat.reduceBEq, Nat.reduceEqDiff, Nat.reduceLeDiff, Nat.reduceLT, Nat.reduceBneDiff, Int.reduceAdd, Int.cast_ofNat_Int, Int.toNat_natCast, Int.reduceLE, Int.reduceLT, Int.reduceToNat, Int.reduceEq, ↓reduceIte, i0], by simp only [go_sem, Nat.reduceAdd, Nat.reduceMul, Nat.reduceSub, Nat.reduceBEq, Nat.reduceEqDiff, Nat.reduceLeDiff, Nat.reduceLT, Nat.reduceBneDiff, Int.reduceAdd, Int.cast_ofNat_Int, Int.toNat_natCast, Int.reduceLE, Int.reduceLT, Int.reduceToNat, Int.reduceEq, ↓reduceIte, i1], by simp only [go_sem, Nat.reduceAdd, Nat.reduceMul, Nat.reduceSub, Nat.reduceBEq, Nat.reduceEqDiff, Nat.reduceLeDiff, Nat.reduceLT, Nat.reduceBneDiff, Int.reduceAdd, Int.cast_ofNat_Int, Int.toNat_natCast, Int.reduceLE, Int.reduceLT, Int.reduceToNat, Int.reduceEq, ↓reduceIte], rfl⟩
        simp only [go_sem, Nat.reduceAdd, Nat.reduceMul, Nat.reduceSub, Nat.reduceBEq, Nat.reduceEqDiff, Nat.reduceLeDiff, Nat.reduceLT, Nat.reduceBneDiff, Int.reduceAdd, Int.cast_ofNat_Int, Int.toNat_natCast, Int.reduceLE, Int.reduceLT, Int.reduceToNat, Int.reduceEq, ↓reduceIte, Nat.sub_self, firstN]
    | succ m =>
      obtain ⟨s, hs, _⟩ := get_of_lt (show i < l.length by omega)
      obtain ⟨id, ver, q, E⟩ := hv.at (by omega) Sl.len hs
      have w5 := E.n5
      have w5' := E.n5'
      have d := lt_true (show i < l.length by omega)
      have a1 := wrap_succ (show i < 1000000 by omega)
      have hf : lastN (longP n) l (i + 1) = if longP n s = true then i + 1 else lastN (longP n) l i := by rw [lastN, hs]
      cases b1 : s.ok
      · rw [longP, b1, Bool.false_and, if_neg (by simp)] at hf
        simp only [f78b0, go_sem, Nat.reduceAdd, Nat.reduceMul, Nat.reduceSub, Nat.reduceBEq, Nat.reduceEqDiff, Nat.reduceLeDiff, Nat.reduceLT, Nat.reduceBneDiff, Int.reduceAdd, Int.cast_ofNat_Int, Int.toNat_natCast, Int.reduceLE, Int.reduceLT, Int.reduceToNat, Int.reduceEq, ↓reduceIte, i0, i1, i6, i7, hlen, d, a1, E.adr, E.adr', E.cel, E.cel', E.all, E.all', E.part, E.part', E.part0, E.part0', E.one, E.one', E.one0, E.one0', b1]
        exact ⟨m, by omega, i + 1, by omega, by rw [hf], rfl⟩
      · cases b2 : decide (n < s.e.n)
        · rw [longP, b1, b2, if_neg (by simp)] at hf
          simp only [f78b0, go_sem, Nat.reduceAdd, Nat.reduceMul, Nat.reduceSub, Nat.reduceBEq, Nat.reduceEqDiff, Nat.reduceLeDiff, Nat.reduceLT, Nat.reduceBneDiff, Int.reduceAdd, Int.cast_ofNat_Int, Int.toNat_natCast, Int.reduceLE, Int.reduceLT, Int.reduceToNat, Int.reduceEq, ↓reduceIte, i0, i1, i6, i7, hlen, d, a1, E.adr, E.adr', E.cel, E.cel', E.all, E.all', E.part, E.part', E.part0, E.part0', E.one, E.one', E.one0, E.one0', b1, w5, w5', gt_iff_lt, b2]
          exact ⟨m, by omega, i + 1, by omega, by rw [hf], rfl⟩
        · rw [longP, b1, b2, if_pos (by simp)] at hf
          simp only [f78b0, go_sem, Nat.reduceAdd, Nat.reduceMul, Nat.reduceSub, Nat.reduceBEq, Nat.reduceEqDiff, Nat.reduceLeDiff, Nat.reduceLT, Nat.reduceBneDiff, Int.reduceAdd, Int.cast_ofNat_Int, Int.toNat_natCast, Int.reduceLE, Int.reduceLT, Int.reduceToNat, Int.reduceEq, ↓reduceIte, i0, i1, i6, i7, hlen, d, a1, E.adr, E.adr', E.cel, E.cel', E.all, E.all', E.part, E.part', E.part0, E.part0', E.one, E.one', E.one0, E.one0', b1, w5, w5', gt_iff_lt, b2]
          exact ⟨m, by omega, i + 1, by omega, by rw [hf], rfl⟩
  · exact ⟨0, by omega, by simp only [go_sem, Nat.reduceAdd, Nat.reduceMul, Nat.reduceSub, Nat.reduceBEq, Nat.reduceEqDiff, Nat.reduceLeDiff, Nat.reduceLT, Nat.reduceBneDiff, Int.reduceAdd, Int.cast_ofNat_Int, Int.toNat_natCast, Int.reduceLE, Int.reduceLT, Int.reduceToNat, Int.reduceEq, ↓reduceIte]; rfl, by simp only [go_sem, Nat.reduceAdd, Nat.reduceMul, Nat.reduceSub, Nat.reduceBEq, Nat.reduceEqDiff, Nat.reduceLeDiff, Nat.reduceLT, Nat.reduceBneDiff, Int.reduceAdd, Int.cast_ofNat_Int, Int.toNat_natCast, Int.reduceLE, Int.reduceLT, Int.reduceToNat, Int.reduceEq, ↓reduceIte], by simp only [go_sem, Nat.reduceAdd, Nat.reduceMul, Nat.reduceSub, Nat.reduceBEq, Nat.reduceEqDiff, Nat.reduceLeDiff, Nat.reduceLT, Nat.reduceBneDiff, Int.reduceAdd, Int.cast_ofNat_Int, Int.toNat_natCast, Int.reduceLE, Int.reduceLT, Int.reduceToNat, Int.reduceEq, ↓reduceIte], by simp only [go_sem, Nat.reduceAdd, Nat.reduceMul, Nat.reduceSub, Nat.reduceBEq, Nat.reduceEqDiff, Nat.reduceLeDiff, Nat.reduceLT, Nat.reduceBneDiff, Int.reduceAdd, Int.cast_ofNat_Int, Int.toNat_natCast, Int.reduceLE, Int.reduceLT, Int.reduceToNat, Int.reduceEq, ↓reduceIte], rfl⟩
theorem ev_ploLast (v : AV) (l : List Sl) (k : Nat) (hv : Lst Sl.c 7 H v l) (hl : l.length < 1000000) (hk : k ≤ l.length) : ev (PX hook) lim 103 [v, .int .i64 (k : Int)] H = some (.int .i64 (optI (frees l 0 k).getLast?), H) := by
  refine ev_own _ (PF t103) rfl (by decide) ?_
  have a0 : IntKind.wrap .i64 ((k : Int) - 1) = (k : Int) - 1 := by rw [wrap_i64] <;> omega
  simp only [f103, go_sem, Nat.reduceAdd, Nat.reduceMul, Nat.reduceSub, Nat.reduceBEq, Nat.reduceEqDiff, Nat.reduceLeDiff, Nat.reduceLT, Nat.reduceBneDiff, Int.reduceAdd, Int.cast_ofNat_Int, Int.toNat_natCast, Int.reduceLE, Int.reduceLT, Int.reduceToNat, Int.reduceEq, ↓reduceIte, a0]
  refine GO_loop _ (fun m e H' => ∃ i : Nat, i = m ∧ i ≤ k ∧ (frees l 0 k).getLast? = (frees l 0 i).getLast? ∧ e 0 = v ∧ e 5 = .int .i64 ((i : Int) - 1) ∧ H' = H) ?_ k _ _ ?_
  · rintro m e H' ⟨i, rfl, hik, hf, i0, i5, rfl⟩
    cases i with
    | zero =>
      have d : decide ((0 : Int) ≤ -1) = false := by decide
      have e1 : ((0 : Nat) : Int) - 1 = -1 := rfl
      rw [e1] at i5
      rw [hf, frees_self]
      simp only [f103b0, go_sem, Nat.reduceAdd, Nat.reduceMul, Nat.reduceSub, Nat.reduceBEq, Nat.reduceEqDiff, Nat.reduceLeDiff, Nat.reduceLT, Nat.reduceBneDiff, Int.reduceAdd, Int.cast_ofNat_Int, Int.toNat_natCast, Int.reduceLE, Int.reduceLT, Int.reduceToNat, Int.reduceEq, ↓reduceIte, i0, i5, ge_iff_le, d]
      rfl
    | succ i =>
      obtain ⟨s, hs, _⟩ := get_of_lt (show i < l.length by omega)
      obtain ⟨id, ver, q, E⟩ := hv.at (by omega) Sl.len hs
      have w5 := E.n5
      have w5' := E.n5'
      have e1 : ((i + 1 : Nat) : Int) - 1 = (i : Int) := by omega
      rw [e1] at i5
      have d : decide ((0 : Int) ≤ (i : Int)) = true := by rw [decide_eq_true_eq]; omega
      have a1 : IntKind.wrap .i64 ((i : Int) - 1) = (i : Int) - 1 := by rw [wrap_i64] <;> omega
      have hfr := frees_snoc (Nat.zero_le i) hs
      cases b1 : s.ok
      · rw [b1, if_neg (by simp)] at hfr
        rw [hf, hfr]
        simp only [f103b0, go_sem, Nat.reduceAdd, Nat.reduceMul, Nat.reduceSub, Nat.reduceBEq, Nat.reduceEqDiff, Nat.reduceLeDiff, Nat.reduceLT, Nat.reduceBneDiff, Int.reduceAdd, Int.cast_ofNat_Int, Int.toNat_natCast, Int.reduceLE, Int.reduceLT, Int.reduceToNat, Int.reduceEq, ↓reduceIte, i0, i5, ge_iff_le, d, a1, E.adr, E.adr', E.cel, E.cel', E.all, E.all', E.part, E.part', E.part0, E.part0', E.one, E.one', E.one0, E.one0', ev_ploEmpty, b1]
        simp [optI]
      · rw [b1, if_pos rfl, List.append_nil] at hfr
        simp only [f103b0, go_sem, Nat.reduceAdd, Nat.reduceMul, Nat.reduceSub, Nat.reduceBEq, Nat.reduceEqDiff, Nat.reduceLeDiff, Nat.reduceLT, Nat.reduceBneDiff, Int.reduceAdd, Int.cast_ofNat_Int, Int.toNat_natCast, Int.reduceLE, Int.reduceLT, Int.reduceToNat, Int.reduceEq, ↓reduceIte, i0, i5, ge_iff_le, d, a1, E.adr, E.adr', E.cel, E.cel', E.all, E.all', E.part, E.part', E.part0, E.part0', E.one, E.one', E.one0, E.one0', ev_ploEmpty, b1]
        exact ⟨i, by omega, i, rfl, by omega, by rw [hf, hfr], rfl⟩
  · exact ⟨k, rfl, Nat.le_refl _, rfl, by simp only [go_sem, Nat.reduceAdd, Nat.reduceMul, Nat.reduceSub, Nat.reduceBEq, Nat.reduceEqDiff, Nat.reduceLeDiff, Nat.reduceLT, Nat.reduceBneDiff, Int.reduceAdd, Int.cast_ofNat_Int, Int.toNat_natCast, Int.reduceLE, Int.reduceLT, Int.reduceToNat, Int.reduceEq, ↓reduceIte], by simp only [go_sem, Nat.reduceAdd, Nat.reduceMul, Nat.reduceSub, Nat.reduceBEq, Nat.reduceEqDiff, Nat.reduceLeDiff, Nat.reduceLT, Nat.reduceBneDiff, Int.reduceAdd, Int.cast_ofNat_Int, Int.toNat_natCast, Int.reduceLE, Int.reduceLT, Int.reduceToNat, Int.reduceEq, ↓reduceIte], rfl⟩
end Go.Proofs.Ytmjanbhmpbhagaa.C
