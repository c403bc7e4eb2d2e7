/- ENTRIES IN ORDER, the program's side: comparison, insertion, sorted row. Conditions: the slice shows at most 12 entries. -/
import Derived.Test.YtmjanbhmpbhagaaLdA
set_option linter.unusedVariables false
set_option linter.unusedSimpArgs false
namespace Go.AM
def iC (k : Int) : List AV := [.int .i64 k]
theorem iC_len (k : Int) : (iC k).length = 1 := rfl
theorem iC_get (k : Int) : (iC k)[0]? = some (.int .i64 k) := rfl
attribute [go_sem] iC_len iC_get
/-- The first that is not 0. -/
def orL : List Int → Int
  | [] => 0
  | a :: l => if a ≠ 0 then a else orL l
theorem eCmp_or (x y : En) : orL [cmpI y.n x.n, cmpA x.w.v y.w.v, cmpA x.w.m y.w.m, cmpI x.x y.x] = eCmp x y := by
  unfold eCmp
  simp only [orL]
  split
  · rfl
  · split
    · rfl
    · split
      · rfl
      · split
        · rfl
        · rename_i h
          have e : cmpI x.x y.x = 0 := by simpa using h
          exact e.symm
theorem sorted_append {p q : List En} : Sorted (p ++ q) ↔ Sorted p ∧ Sorted q ∧ ∀ a ∈ p, ∀ b ∈ q, eLe a b = true := List.pairwise_append
end Go.AM
namespace Go.Proofs.Ytmjanbhmpbhagaa.C
open Go.AM
variable {hook : Nat → Nat → List AV → Heap → Option (AV × Heap)} {lim : Nat} {H : Heap}
theorem word_cmp (a b : Adr) : (cmpI ((hi a).toNat : Int) ((hi b).toNat : Int) = 0 → cmpA a b = cmpI ((lo a).toNat : Int) ((lo b).toNat : Int)) ∧ (cmpI ((hi a).toNat : Int) ((hi b).toNat : Int) ≠ 0 → cmpA a b = cmpI ((hi a).toNat : Int) ((hi b).toNat : Int)) := by
  rw [cmpA_num, nat_words a, nat_words b]
  have h1 := (lo a).isLt
  have h2 := (lo b).isLt
  simp only [show (2 : Nat) ^ 64 = 18446744073709551616 from rfl] at h1 h2
  unfold cmpI
  constructor
  · intro h
    split at h
    · cases h
    · split at h
      · cases h
      · repeat' split
        all_goals omega
  · intro h
    repeat' split
    all_goals omega
theorem ev_addrCompare (a b : Adr) : ev (PX hook) lim 112 [.agg [u64 (hi a), u64 (lo a)], .agg [u64 (hi b), u64 (lo b)]] H = some (.int .i64 (cmpA a b), H) := by
  refine ev_own _ (PF t112) rfl (by decide) ?_
  obtain ⟨w1, w2⟩ := word_cmp a b
  have l2 : decide ((0 : Int) < 2) = true := rfl
  have l3 : decide ((1 : Int) < 2) = true := rfl
  have l4 : decide ((2 : Int) < 2) = false := rfl
  have a1 : IntKind.wrap .i64 1 = 1 := rfl
  have a2 : IntKind.wrap .i64 2 = 2 := rfl
  by_cases h1 : hi a < hi b
  · have e : cmpA a b = -1 := by
      have : cmpI ((hi a).toNat : Int) ((hi b).toNat : Int) = -1 := by unfold cmpI; rw [if_pos]; exact Int.ofNat_lt.2 h1
      rw [w2 (by rw [this]; decide), this]
    have d1 : decide (hi a < hi b) = true := by simp [h1]
    rw [e]
    simp only [f112, go_sem, Nat.reduceAdd, Nat.reduceMul, Nat.reduceSub, Nat.reduceBEq, Nat.reduceEqDiff, Nat.reduceLeDiff, Nat.reduceLT, Nat.reduceBneDiff, Int.reduceAdd, Int.cast_ofNat_Int, Int.toNat_natCast, Int.reduceLE, Int.reduceLT, Int.reduceToNat, Int.reduceEq, ↓reduceIte, GO_unroll, f112b0, l2, d1, show (0 : Int) < 2 by decide, Int.le_refl]
  · have d1 : decide (hi a < hi b) = false := by simp [h1]
    by_cases h2 : hi b < hi a
    · have e : cmpA a b = 1 := by
        have : cmpI ((hi a).toNat : Int) ((hi b).toNat : Int) = 1 := by
          unfold cmpI; rw [if_neg, if_pos]
          · exact Int.ofNat_lt.2 h2
          · intro g; exact h1 (Int.ofNat_lt.1 g)
        rw [w2 (by rw [this]; decide), this]
      have d2 : decide (hi b < hi a) = true := by simp [h2]
      rw [e]
      simp only [f112, go_sem, Nat.reduceAdd, Nat.reduceMul, Nat.reduceSub, Nat.reduceBEq, Nat.reduceEqDiff, Nat.reduceLeDiff, Nat.reduceLT, Nat.reduceBneDiff, Int.reduceAdd, Int.cast_ofNat_Int, Int.toNat_natCast, Int.reduceLE, Int.reduceLT, Int.reduceToNat, Int.reduceEq, ↓reduceIte, GO_unroll, f112b0, l2, d1, d2, show (0 : Int) < 2 by decide, Int.le_refl]
    · have d2 : decide (hi b < hi a) = false := by simp [h2]
      have e0 : cmpI ((hi a).toNat : Int) ((hi b).toNat : Int) = 0 := by
        unfold cmpI; rw [if_neg, if_neg]
        · intro g; exact h2 (Int.ofNat_lt.1 g)
        · intro g; exact h1 (Int.ofNat_lt.1 g)
      rw [w1 e0]
      have p1 : (0 : Int) < 2 := by decide
      have p2 : (1 : Int) < 2 := by decide
      have p3 : (0 : Int) ≤ 1 := by decide
      by_cases h3 : lo a < lo b
      · have d3 : decide (lo a < lo b) = true := by simp [h3]
        have e : cmpI ((lo a).toNat : Int) ((lo b).toNat : Int) = -1 := by unfold cmpI; rw [if_pos]; exact Int.ofNat_lt.2 h3
        rw [e]
        simp only [f112, go_sem, Nat.reduceAdd, Nat.reduceMul, Nat.reduceSub, Nat.reduceBEq, Nat.reduceEqDiff, Nat.reduceLeDiff, Nat.reduceLT, Nat.reduceBneDiff, Int.reduceAdd, Int.cast_ofNat_Int, Int.toNat_natCast, Int.reduceLE, Int.reduceLT, Int.reduceToNat, Int.reduceEq, ↓reduceIte, GO_unroll, f112b0, l2, l3, d1, d2, d3, p1, p2, p3, a1, Int.le_refl]
      · have d3 : decide (lo a < lo b) = false := by simp [h3]
        by_cases h4 : lo b < lo a
        · have d4 : decide (lo b < lo a) = true := by simp [h4]
          have e : cmpI ((lo a).toNat : Int) ((lo b).toNat : Int) = 1 := by
            unfold cmpI; rw [if_neg, if_pos]
            · exact Int.ofNat_lt.2 h4
            · intro g; exact h3 (Int.ofNat_lt.1 g)
          rw [e]
          simp only [f112, go_sem, Nat.reduceAdd, Nat.reduceMul, Nat.reduceSub, Nat.reduceBEq, Nat.reduceEqDiff, Nat.reduceLeDiff, Nat.reduceLT, Nat.reduceBneDiff, Int.reduceAdd, Int.cast_ofNat_Int, Int.toNat_natCast, Int.reduceLE, Int.reduceLT, Int.reduceToNat, Int.reduceEq, ↓reduceIte, GO_unroll, f112b0, l2, l3, d1, d2, d3, d4, p1, p2, p3, a1, Int.le_refl]
        · have d4 : decide (lo b < lo a) = false := by simp [h4]
          have e : cmpI ((lo a).toNat : Int) ((lo b).toNat : Int) = 0 := by
            unfold cmpI; rw [if_neg, if_neg]
            · intro g; exact h4 (Int.ofNat_lt.1 g)
            · intro g; exact h3 (Int.ofNat_lt.1 g)
          rw [e]
          simp only [f112, go_sem, Nat.reduceAdd, Nat.reduceMul, Nat.reduceSub, Nat.reduceBEq, Nat.reduceEqDiff, Nat.reduceLeDiff, Nat.reduceLT, Nat.reduceBneDiff, Int.reduceAdd, Int.cast_ofNat_Int, Int.toNat_natCast, Int.reduceLE, Int.reduceLT, Int.reduceToNat, Int.reduceEq, ↓reduceIte, GO_unroll, f112b0, l2, l3, l4, d1, d2, d3, d4, p1, p2, p3, a1, a2, Int.le_refl]
theorem ev_cmpOr (v : AV) (l : List Int) (hv : Lst iC 1 H v l) (hl : l.length < 1000000) : ev (PX hook) lim 111 [v] H = some (.int .i64 (orL l), H) := by
  refine ev_own _ (PF t111) rfl (by decide) ?_
  have hlen := hv.len'
  simp only [f111, go_sem, Nat.reduceAdd, Nat.reduceMul, Nat.reduceSub, Nat.reduceBEq, Nat.reduceEqDiff, Nat.reduceLeDiff, Nat.reduceLT, Nat.reduceBneDiff, Int.reduceAdd, Int.cast_ofNat_Int, Int.toNat_natCast, Int.reduceLE, Int.reduceLT, Int.reduceToNat, Int.reduceEq, ↓reduceIte, hlen]
  refine GO_loop _ (fun m e H' => ∃ k : Nat, k + m = l.length ∧ orL l = orL (l.drop k) ∧ e 3 = .int .i64 0 ∧ e 6 = v ∧ e 7 = .int .i64 (l.length : Int) ∧ e 8 = .int .i64 (k : Int) ∧ H' = H) ?_ l.length _ _ ?_
  · rintro m e H' ⟨k, hk, hf, i3, i6, i7, i8, rfl⟩
    cases m with
    | zero =>
      have hk' : k = l.length := by omega
      subst hk'
      rw [List.drop_of_length_le (Nat.le_refl _)] at hf
      simp only [f111b0, go_sem, Nat.reduceAdd, Nat.reduceMul, Nat.reduceSub, Nat.reduceBEq, Nat.reduceEqDiff, Nat.reduceLeDiff, Nat.reduceLT, Nat.reduceBneDiff, Int.reduceAdd, Int.cast_ofNat_Int, Int.toNat_natCast, Int.reduceLE, Int.reduceLT, Int.reduceToNat, Int.reduceEq, ↓reduceIte, i3, i6, i7, i8, lt_false, hf, orL]
    | succ m =>
      obtain ⟨x, hx, hd⟩ := get_of_lt (show k < l.length by omega)
      obtain ⟨id, ver, q, E⟩ := hv.at (by omega) iC_len hx
      have d := lt_true (show k < l.length by omega)
      have a1 := wrap_succ (show k < 1000000 by omega)
      rw [hd, orL] at hf
      by_cases h0 : x = 0
      · have b : (x != 0) = false := by simp [h0]
        rw [if_neg (by simp [h0])] at hf
        simp only [f111b0, go_sem, Nat.reduceAdd, Nat.reduceMul, Nat.reduceSub, Nat.reduceBEq, Nat.reduceEqDiff, Nat.reduceLeDiff, Nat.reduceLT, Nat.reduceBneDiff, Int.reduceAdd, Int.cast_ofNat_Int, Int.toNat_natCast, Int.reduceLE, Int.reduceLT, Int.reduceToNat, Int.reduceEq, ↓reduceIte, i3, i6, i7, i8, d, a1, E.adr, E.adr', E.cel, E.cel', E.all, E.all', E.part, E.part', E.part0, E.part0', E.one, E.one', E.one0, E.one0', b]
        exact ⟨m, by omega, k + 1, by omega, hf, rfl⟩
      · have b : (x != 0) = true := by simp [h0]
        rw [if_pos h0] at hf
        simp only [f111b0, go_sem, Nat.reduceAdd, Nat.reduceMul, Nat.reduceSub, Nat.reduceBEq, Nat.reduceEqDiff, Nat.reduceLeDiff, Nat.reduceLT, Nat.reduceBneDiff, Int.reduceAdd, Int.cast_ofNat_Int, Int.toNat_natCast, Int.reduceLE, Int.reduceLT, Int.reduceToNat, Int.reduceEq, ↓reduceIte, i3, i6, i7, i8, d, a1, E.adr, E.adr', E.cel, E.cel', E.all, E.all', E.part, E.part', E.part0, E.part0', E.one, E.one', E.one0, E.one0', b, hf]
  · exact ⟨0, by omega, rfl, by simp only [go_sem, Nat.reduceAdd, Nat.reduceMul, Nat.reduceSub, Nat.reduceBEq, Nat.reduceEqDiff, Nat.reduceLeDiff, Nat.reduceLT, Nat.reduceBneDiff, Int.reduceAdd, Int.cast_ofNat_Int, Int.toNat_natCast, Int.reduceLE, Int.reduceLT, Int.reduceToNat, Int.reduceEq, ↓reduceIte], by simp only [go_sem, Nat.reduceAdd, Nat.reduceMul, Nat.reduceSub, Nat.reduceBEq, Nat.reduceEqDiff, Nat.reduceLeDiff, Nat.reduceLT, Nat.reduceBneDiff, Int.reduceAdd, Int.cast_ofNat_Int, Int.toNat_natCast, Int.reduceLE, Int.reduceLT, Int.reduceToNat, Int.reduceEq, ↓reduceIte], by simp only [go_sem, Nat.reduceAdd, Nat.reduceMul, Nat.reduceSub, Nat.reduceBEq, Nat.reduceEqDiff, Nat.reduceLeDiff, Nat.reduceLT, Nat.reduceBneDiff, Int.reduceAdd, Int.cast_ofNat_Int, Int.toNat_natCast, Int.reduceLE, Int.reduceLT, Int.reduceToNat, Int.reduceEq, ↓reduceIte], by simp only [go_sem, Nat.reduceAdd, Nat.reduceMul, Nat.reduceSub, Nat.reduceBEq, Nat.reduceEqDiff, Nat.reduceLeDiff, Nat.reduceLT, Nat.reduceBneDiff, Int.reduceAdd, Int.cast_ofNat_Int, Int.toNat_natCast, Int.reduceLE, Int.reduceLT, Int.reduceToNat, Int.reduceEq, ↓reduceIte], rfl⟩
theorem ev_ECompare (x y : En) : ev (PX hook) lim 106 [.agg x.c, .agg y.c] H = some (.int .i64 (eCmp x y), H) := by
  refine ev_own _ (PF t106) rfl (by decide) ?_
  have h4 : Lst iC 1 (H ++ [Blk.rw 0 6 x.c, .rw 0 6 y.c, .rw 0 1 [.int .i64 (cmpI y.n x.n), .int .i64 (cmpA x.w.v y.w.v), .int .i64 (cmpA x.w.m y.w.m), .int .i64 (cmpI x.x y.x)]]) (.sl (H.length + 2) 0 0 4 true) [cmpI y.n x.n, cmpA x.w.v y.w.v, cmpA x.w.m y.w.m, cmpI x.x y.x] := by
    have := Lst.lit iC_len (H ++ [Blk.rw 0 6 x.c, .rw 0 6 y.c]) [] [cmpI y.n x.n, cmpA x.w.v y.w.v, cmpA x.w.m y.w.m, cmpI x.x y.x] true
    simpa [cat, iC] using this
  have ho := ev_cmpOr (hook := hook) (lim := H.length) _ _ h4 (by simp)
  rw [eCmp_or] at ho
  simp only [En.c] at ho
  simp only [f106, go_sem, Nat.reduceAdd, Nat.reduceMul, Nat.reduceSub, Nat.reduceBEq, Nat.reduceEqDiff, Nat.reduceLeDiff, Nat.reduceLT, Nat.reduceBneDiff, Int.reduceAdd, Int.cast_ofNat_Int, Int.toNat_natCast, Int.reduceLE, Int.reduceLT, Int.reduceToNat, Int.reduceEq, ↓reduceIte, En.c, ev_cmpI, ev_addrCompare, ho]
theorem ev_BitsLen (x : BitVec 64) : ∃ n : Int, ∀ (lim : Nat) (H : Heap), ev (PX hook) lim 110 [u64 x] H = some (.int .i64 n, H) := by
  obtain ⟨n, _, _, h⟩ := ev_Len64 x
  refine ⟨n, fun lim H => ev_own _ (PF t110) rfl (by decide) ?_⟩
  simp only [f110, go_sem, Nat.reduceAdd, Nat.reduceMul, Nat.reduceSub, Nat.reduceBEq, Nat.reduceEqDiff, Nat.reduceLeDiff, Nat.reduceLT, Nat.reduceBneDiff, Int.reduceAdd, Int.cast_ofNat_Int, Int.toNat_natCast, Int.reduceLE, Int.reduceLT, Int.reduceToNat, Int.reduceEq, ↓reduceIte, h]
theorem insert_in (H : Heap) (v : AV) (L : List En) (i : Nat) (G : Heap) (hlim : lim ≤ H.length) (hg : Ow En.c 6 H G v L) (hi : i < L.length) (hl : L.length < 1000000) (hs : Sorted (L.take i)) {K : List Frm} {Q : Post} {e : Env}
    (e0 : e 0 = v) (e1 : e 1 = .int .i64 0) (e3 : e 3 = .fn 106 []) (e9 : e 9 = .int .i64 (i : Int))
    (g : ∀ (e' : Env) (G' : Heap) (M : List En), Ow En.c 6 H G' v M → M.Perm L → Sorted (M.take (i + 1)) → M.length = L.length → e' 0 = v → e' 1 = .int .i64 0 → e' 2 = e 2 → e' 3 = .fn 106 [] → e' 8 = e 8 → ON (PX hook) lim K (.exit 2) e' (H ++ G') Q) :
    GO (PX hook) lim (.loop f113b0) K e (H ++ G) Q := by
  refine GO_loop _ (fun j e' H' => ∃ (G' : Heap) (p q r : List En) (x : En), p.length = j ∧ Ow En.c 6 H G' v (p ++ x :: (q ++ r)) ∧ (p ++ x :: (q ++ r)).Perm L ∧ p.length + q.length = i ∧ Sorted (p ++ q) ∧ (∀ y ∈ q, eLe x y = true) ∧ e' 0 = v ∧ e' 1 = .int .i64 0 ∧ e' 2 = e 2 ∧ e' 3 = .fn 106 [] ∧ e' 8 = e 8 ∧ e' 9 = .int .i64 (j : Int) ∧ H' = H ++ G') ?_ i _ _ ?_
  · rintro j e' H' ⟨G', p, q, r, x, hpj, hg', hperm, hpq, hsort, hxq, j0, j1, j2, j3, j8, j9, rfl⟩
    have hlenL : (p ++ x :: (q ++ r)).length = L.length := hperm.length_eq
    cases j with
    | zero =>
      have hp : p = [] := List.eq_nil_of_length_eq_zero hpj
      subst hp
      have d : decide ((0 : Int) < ((0 : Nat) : Int)) = false := by decide
      have z0 : ((0 : Nat) : Int) = 0 := rfl
      rw [z0] at j9 d
      simp only [f113b0, go_sem, Nat.reduceAdd, Nat.reduceMul, Nat.reduceSub, Nat.reduceBEq, Nat.reduceEqDiff, Nat.reduceLeDiff, Nat.reduceLT, Nat.reduceBneDiff, Int.reduceAdd, Int.cast_ofNat_Int, Int.toNat_natCast, Int.reduceLE, Int.reduceLT, Int.reduceToNat, Int.reduceEq, ↓reduceIte, j0, j1, j3, j9, gt_iff_lt, d]
      refine g _ G' _ hg' hperm ?_ hlenL (by simp only [go_sem, Nat.reduceAdd, Nat.reduceMul, Nat.reduceSub, Nat.reduceBEq, Nat.reduceEqDiff, Nat.reduceLeDiff, Nat.reduceLT, Nat.reduceBneDiff, Int.reduceAdd, Int.cast_ofNat_Int, Int.toNat_natCast, Int.reduceLE, Int.reduceLT, Int.reduceToNat, Int.reduceEq, ↓reduceIte, j0]) (by simp only [go_sem, Nat.reduceAdd, Nat.reduceMul, Nat.reduceSub, Nat.reduceBEq, Nat.reduceEqDiff, Nat.reduceLeDiff, Nat.reduceLT, Nat.reduceBneDiff, Int.reduceAdd, Int.cast_ofNat_Int, Int.toNat_natCast, Int.reduceLE, Int.reduceLT, Int.reduceToNat, Int.reduceEq, ↓reduceIte, j1]) (by simp only [go_sem, Nat.reduceAdd, Nat.reduceMul, Nat.reduceSub, Nat.reduceBEq, Nat.reduceEqDiff, Nat.reduceLeDiff, Nat.reduceLT, Nat.reduceBneDiff, Int.reduceAdd, Int.cast_ofNat_Int, Int.toNat_natCast, Int.reduceLE, Int.reduceLT, Int.reduceToNat, Int.reduceEq, ↓reduceIte, j2]) (by simp only [go_sem, Nat.reduceAdd, Nat.reduceMul, Nat.reduceSub, Nat.reduceBEq, Nat.reduceEqDiff, Nat.reduceLeDiff, Nat.reduceLT, Nat.reduceBneDiff, Int.reduceAdd, Int.cast_ofNat_Int, Int.toNat_natCast, Int.reduceLE, Int.reduceLT, Int.reduceToNat, Int.reduceEq, ↓reduceIte, j3]) (by simp only [go_sem, Nat.reduceAdd, Nat.reduceMul, Nat.reduceSub, Nat.reduceBEq, Nat.reduceEqDiff, Nat.reduceLeDiff, Nat.reduceLT, Nat.reduceBneDiff, Int.reduceAdd, Int.cast_ofNat_Int, Int.toNat_natCast, Int.reduceLE, Int.reduceLT, Int.reduceToNat, Int.reduceEq, ↓reduceIte, j8])
      simp only [List.nil_append, List.length_nil, Nat.zero_add] at hpq hsort ⊢
      rw [List.take_succ_cons, List.take_left' hpq]
      exact List.pairwise_cons.2 ⟨hxq, hsort⟩
    | succ j =>
      have d : decide ((0 : Int) < ((j + 1 : Nat) : Int)) = true := by rw [decide_eq_true_eq]; omega
      obtain ⟨p', y, rfl⟩ : ∃ p' y, p = p' ++ [y] := by
        refine ⟨p.dropLast, p.getLast (by intro h; rw [h] at hpj; simp at hpj), ?_⟩
        exact (List.dropLast_concat_getLast _).symm
      have hp'j : p'.length = j := by simpa using hpj
      have a1 : IntKind.wrap .i64 (((j + 1 : Nat) : Int) - 1) = (j : Int) := by rw [wrap_i64] <;> omega
      have hx : (p' ++ [y] ++ x :: (q ++ r))[j + 1]? = some x := by
        rw [List.getElem?_append_right (by simp; omega)]; simp [hp'j]
      have hy : (p' ++ [y] ++ x :: (q ++ r))[j]? = some y := by
        rw [List.getElem?_append_left (by simp; omega), List.getElem?_append_right (by omega)]; simp [hp'j]
      have hlst := hg'.lst En.len
      obtain ⟨id, ver, t, E⟩ := hlst.at (by omega) En.len hx
      obtain ⟨jd, wer, u, F⟩ := hlst.at (by omega) En.len hy
      by_cases hlt : eCmp x y < 0
      · have d2 : decide (eCmp x y < 0) = true := by simp [hlt]
        obtain ⟨G1, w1, _, _, o1⟩ := hg'.setE (lim := lim) En.len (k := j + 1) (by simp; omega) E y hlim
        have hset1 : (p' ++ [y] ++ x :: (q ++ r)).set (j + 1) y = p' ++ [y] ++ y :: (q ++ r) := by
          rw [List.set_append_right _ _ (by simp; omega)]; simp [hp'j]
        rw [hset1] at o1
        have hy1 : (p' ++ [y] ++ y :: (q ++ r))[j]? = some y := by
          rw [List.getElem?_append_left (by simp; omega), List.getElem?_append_right (by omega)]; simp [hp'j]
        obtain ⟨kd, xer, w, K1⟩ := (o1.lst En.len).at (by omega) En.len hy1
        obtain ⟨G2, w2, _, _, o2⟩ := o1.setE (lim := lim) En.len (k := j) (by simp; omega) K1 x hlim
        have hset2 : (p' ++ [y] ++ y :: (q ++ r)).set j x = p' ++ x :: ((y :: q) ++ r) := by
          rw [List.append_assoc, List.set_append_right _ _ (by omega)]; simp [hp'j]
        rw [hset2] at o2
        simp only [f113b0, go_sem, Nat.reduceAdd, Nat.reduceMul, Nat.reduceSub, Nat.reduceBEq, Nat.reduceEqDiff, Nat.reduceLeDiff, Nat.reduceLT, Nat.reduceBneDiff, Int.reduceAdd, Int.cast_ofNat_Int, Int.toNat_natCast, Int.reduceLE, Int.reduceLT, Int.reduceToNat, Int.reduceEq, ↓reduceIte, j0, j1, j3, j9, gt_iff_lt, d, a1, E.adr', E.all', F.adr', F.all', ev_ECompare, d2, w1, K1.adr', w2]
        have hle : eLe x y = true := by
          have h1 := (eCmp_lt x y).1 hlt
          have h2 := eLe_total x y
          rw [h1, Bool.or_false] at h2; exact h2
        refine ⟨j, by omega, G2, p', y :: q, r, x, hp'j, o2, ?_, by simp at hpq ⊢; omega, ?_, ?_, j2, j8, rfl, rfl⟩
        · refine List.Perm.trans ?_ hperm
          simp only [List.append_assoc, List.singleton_append, List.cons_append, List.nil_append]
          exact List.Perm.append_left p' (List.Perm.swap y x (q ++ r))
        · simpa using hsort
        · intro z hz
          rcases List.mem_cons.1 hz with rfl | hz
          · exact hle
          · exact hxq z hz
      · have d2 : decide (eCmp x y < 0) = false := by simp [hlt]
        simp only [f113b0, go_sem, Nat.reduceAdd, Nat.reduceMul, Nat.reduceSub, Nat.reduceBEq, Nat.reduceEqDiff, Nat.reduceLeDiff, Nat.reduceLT, Nat.reduceBneDiff, Int.reduceAdd, Int.cast_ofNat_Int, Int.toNat_natCast, Int.reduceLE, Int.reduceLT, Int.reduceToNat, Int.reduceEq, ↓reduceIte, j0, j1, j3, j9, gt_iff_lt, d, a1, E.adr', E.all', F.adr', F.all', ev_ECompare, d2]
        refine g _ G' _ hg' hperm ?_ hlenL (by simp only [go_sem, Nat.reduceAdd, Nat.reduceMul, Nat.reduceSub, Nat.reduceBEq, Nat.reduceEqDiff, Nat.reduceLeDiff, Nat.reduceLT, Nat.reduceBneDiff, Int.reduceAdd, Int.cast_ofNat_Int, Int.toNat_natCast, Int.reduceLE, Int.reduceLT, Int.reduceToNat, Int.reduceEq, ↓reduceIte, j0]) (by simp only [go_sem, Nat.reduceAdd, Nat.reduceMul, Nat.reduceSub, Nat.reduceBEq, Nat.reduceEqDiff, Nat.reduceLeDiff, Nat.reduceLT, Nat.reduceBneDiff, Int.reduceAdd, Int.cast_ofNat_Int, Int.toNat_natCast, Int.reduceLE, Int.reduceLT, Int.reduceToNat, Int.reduceEq, ↓reduceIte, j1]) (by simp only [go_sem, Nat.reduceAdd, Nat.reduceMul, Nat.reduceSub, Nat.reduceBEq, Nat.reduceEqDiff, Nat.reduceLeDiff, Nat.reduceLT, Nat.reduceBneDiff, Int.reduceAdd, Int.cast_ofNat_Int, Int.toNat_natCast, Int.reduceLE, Int.reduceLT, Int.reduceToNat, Int.reduceEq, ↓reduceIte, j2]) (by simp only [go_sem, Nat.reduceAdd, Nat.reduceMul, Nat.reduceSub, Nat.reduceBEq, Nat.reduceEqDiff, Nat.reduceLeDiff, Nat.reduceLT, Nat.reduceBneDiff, Int.reduceAdd, Int.cast_ofNat_Int, Int.toNat_natCast, Int.reduceLE, Int.reduceLT, Int.reduceToNat, Int.reduceEq, ↓reduceIte, j3]) (by simp only [go_sem, Nat.reduceAdd, Nat.reduceMul, Nat.reduceSub, Nat.reduceBEq, Nat.reduceEqDiff, Nat.reduceLeDiff, Nat.reduceLT, Nat.reduceBneDiff, Int.reduceAdd, Int.cast_ofNat_Int, Int.toNat_natCast, Int.reduceLE, Int.reduceLT, Int.reduceToNat, Int.reduceEq, ↓reduceIte, j8])
        have hyx : eLe y x = true := by
          have h2 := eLe_total x y
          have h3 : ¬ eLe y x = false := fun h => hlt ((eCmp_lt x y).2 h)
          simpa using h3
        have htake : (p' ++ [y] ++ x :: (q ++ r)).take (i + 1) = p' ++ [y] ++ x :: q := by
          rw [List.take_append, List.take_of_length_le (by simp; simp at hpq; omega)]
          congr 1
          have hq : i + 1 - (p' ++ [y]).length = q.length + 1 := by omega
          rw [hq, List.take_succ_cons, List.take_left' rfl]
        rw [htake]
        rw [sorted_append] at hsort ⊢
        obtain ⟨s1, s2, s3⟩ := hsort
        refine ⟨s1, List.pairwise_cons.2 ⟨hxq, s2⟩, fun a ha b hb => ?_⟩
        rcases List.mem_cons.1 hb with rfl | hb
        · rcases List.mem_append.1 ha with h1 | h1
          · have := (sorted_append.1 s1).2.2 a h1 y (by simp)
            exact eLe_trans a y _ this hyx
          · simp at h1; subst h1; exact hyx
        · exact s3 a ha b hb
  · obtain ⟨x, hx, hd⟩ := get_of_lt hi
    have hL : L = L.take i ++ x :: ([] ++ L.drop (i + 1)) := by
      rw [List.nil_append, ← hd, List.take_append_drop]
    refine ⟨G, L.take i, [], L.drop (i + 1), x, by rw [List.length_take]; omega, by rw [← hL]; exact hg, by rw [← hL], by simp; omega, by simpa using hs, by simp, e0, e1, rfl, e3, rfl, e9, rfl⟩
theorem ev_insertion (v : AV) (l : List En) (G : Heap) (hlim : lim ≤ H.length) (hg : Ow En.c 6 H G v l) (hl : l.length < 1000000) :
    ∃ G', ev (PX hook) lim 113 [v, .int .i64 0, .int .i64 (l.length : Int), .fn 106 []] (H ++ G) = some (.tup [], H ++ G') ∧ Ow En.c 6 H G' v (eSort l) := by
  suffices hs : EV (PX hook) lim 113 [v, .int .i64 0, .int .i64 (l.length : Int), .fn 106 []] (H ++ G) fun r H' => ∃ G', r = .tup [] ∧ H' = H ++ G' ∧ Ow En.c 6 H G' v (eSort l) by
    rw [EV_iff] at hs; obtain ⟨r, H', h1, G', rfl, rfl, h2⟩ := hs; exact ⟨G', h1, h2⟩
  rw [EV_raw _ (PF t113) rfl rfl]
  have a0 : IntKind.wrap .i64 1 = 1 := rfl
  have rnil : ∀ (e : Env) (H : Heap), resOf e H [] = some (.tup []) := fun _ _ => rfl
  simp only [f113, go_sem, Nat.reduceAdd, Nat.reduceMul, Nat.reduceSub, Nat.reduceBEq, Nat.reduceEqDiff, Nat.reduceLeDiff, Nat.reduceLT, Nat.reduceBneDiff, Int.reduceAdd, Int.cast_ofNat_Int, Int.toNat_natCast, Int.reduceLE, Int.reduceLT, Int.reduceToNat, Int.reduceEq, ↓reduceIte, a0]
  refine GO_loop _ (fun m e H' => ∃ (i : Nat) (G' : Heap) (M : List En), (l.length ≤ i ∧ m = 0 ∨ i + m = l.length) ∧ 1 ≤ i ∧ Ow En.c 6 H G' v M ∧ M.Perm l ∧ Sorted (M.take i) ∧ e 0 = v ∧ e 1 = .int .i64 0 ∧ e 2 = .int .i64 (l.length : Int) ∧ e 3 = .fn 106 [] ∧ e 8 = .int .i64 (i : Int) ∧ H' = H ++ G') ?_ (l.length - 1) _ _ ?_
  · rintro m e H' ⟨i, G', M, hi, hi1, hg', hperm, hsort, i0, i1, i2, i3, i8, rfl⟩
    have hML := hperm.length_eq
    by_cases hlt : i < l.length
    · have d := lt_true hlt
      have a1 := wrap_succ (show i < 1000000 by omega)
      simp only [f113b1, go_sem, Nat.reduceAdd, Nat.reduceMul, Nat.reduceSub, Nat.reduceBEq, Nat.reduceEqDiff, Nat.reduceLeDiff, Nat.reduceLT, Nat.reduceBneDiff, Int.reduceAdd, Int.cast_ofNat_Int, Int.toNat_natCast, Int.reduceLE, Int.reduceLT, Int.reduceToNat, Int.reduceEq, ↓reduceIte, i0, i1, i2, i3, i8, d]
      refine insert_in (hook := hook) (lim := lim) H v M i G' hlim hg' (by omega) (by omega) hsort (by simp only [go_sem, Nat.reduceAdd, Nat.reduceMul, Nat.reduceSub, Nat.reduceBEq, Nat.reduceEqDiff, Nat.reduceLeDiff, Nat.reduceLT, Nat.reduceBneDiff, Int.reduceAdd, Int.cast_ofNat_Int, Int.toNat_natCast, Int.reduceLE, Int.reduceLT, Int.reduceToNat, Int.reduceEq, ↓reduceIte, i0]) (by simp only [go_sem, Nat.reduceAdd, Nat.reduceMul, Nat.reduceSub, Nat.reduceBEq, Nat.reduceEqDiff, Nat.reduceLeDiff, Nat.reduceLT, Nat.reduceBneDiff, Int.reduceAdd, Int.cast_ofNat_Int, Int.toNat_natCast, Int.reduceLE, Int.reduceLT, Int.reduceToNat, Int.reduceEq, ↓reduceIte, i1]) (by simp only [go_sem, Nat.reduceAdd, Nat.reduceMul, Nat.reduceSub, Nat.reduceBEq, Nat.reduceEqDiff, Nat.reduceLeDiff, Nat.reduceLT, Nat.reduceBneDiff, Int.reduceAdd, Int.cast_ofNat_Int, Int.toNat_natCast, Int.reduceLE, Int.reduceLT, Int.reduceToNat, Int.reduceEq, ↓reduceIte, i3]) (by simp only [go_sem, Nat.reduceAdd, Nat.reduceMul, Nat.reduceSub, Nat.reduceBEq, Nat.reduceEqDiff, Nat.reduceLeDiff, Nat.reduceLT, Nat.reduceBneDiff, Int.reduceAdd, Int.cast_ofNat_Int, Int.toNat_natCast, Int.reduceLE, Int.reduceLT, Int.reduceToNat, Int.reduceEq, ↓reduceIte]) ?_
      intro e' G'' N hg'' hp' hs' hlen' j0 j1 j2 j3 j8
      simp only [go_sem, Nat.reduceAdd, Nat.reduceMul, Nat.reduceSub, Nat.reduceBEq, Nat.reduceEqDiff, Nat.reduceLeDiff, Nat.reduceLT, Nat.reduceBneDiff, Int.reduceAdd, Int.cast_ofNat_Int, Int.toNat_natCast, Int.reduceLE, Int.reduceLT, Int.reduceToNat, Int.reduceEq, ↓reduceIte, i2, i8] at j2 j8
      simp only [go_sem, Nat.reduceAdd, Nat.reduceMul, Nat.reduceSub, Nat.reduceBEq, Nat.reduceEqDiff, Nat.reduceLeDiff, Nat.reduceLT, Nat.reduceBneDiff, Int.reduceAdd, Int.cast_ofNat_Int, Int.toNat_natCast, Int.reduceLE, Int.reduceLT, Int.reduceToNat, Int.reduceEq, ↓reduceIte, j0, j1, j2, j3, j8, a1]
      exact ⟨m - 1, by omega, i + 1, G'', N, by omega, by omega, hg'', hp'.trans hperm, hs', rfl, rfl⟩
    · have d : decide ((i : Int) < (l.length : Int)) = false := by rw [decide_eq_false_iff_not]; omega
      rw [List.take_of_length_le (by omega)] at hsort
      have hM := sort_unique hperm hsort
      simp only [f113b1, go_sem, Nat.reduceAdd, Nat.reduceMul, Nat.reduceSub, Nat.reduceBEq, Nat.reduceEqDiff, Nat.reduceLeDiff, Nat.reduceLT, Nat.reduceBneDiff, Int.reduceAdd, Int.cast_ofNat_Int, Int.toNat_natCast, Int.reduceLE, Int.reduceLT, Int.reduceToNat, Int.reduceEq, ↓reduceIte, i0, i1, i2, i3, i8, d, rnil]
      exact ⟨G', rfl, by rw [← hM]; exact hg'⟩
  · refine ⟨1, G, l, by omega, Nat.le_refl _, hg, List.Perm.refl _, ?_, by simp only [go_sem, Nat.reduceAdd, Nat.reduceMul, Nat.reduceSub, Nat.reduceBEq, Nat.reduceEqDiff, Nat.reduceLeDiff, Nat.reduceLT, Nat.reduceBneDiff, Int.reduceAdd, Int.cast_ofNat_Int, Int.toNat_natCast, Int.reduceLE, Int.reduceLT, Int.reduceToNat, Int.reduceEq, ↓reduceIte], by simp only [go_sem, Nat.reduceAdd, Nat.reduceMul, Nat.reduceSub, Nat.reduceBEq, Nat.reduceEqDiff, Nat.reduceLeDiff, Nat.reduceLT, Nat.reduceBneDiff, Int.reduceAdd, Int.cast_ofNat_Int, Int.toNat_natCast, Int.reduceLE, Int.reduceLT, Int.reduceToNat, Int.reduceEq, ↓reduceIte], by simp only [go_sem, Nat.reduceAdd, Nat.reduceMul, Nat.reduceSub, Nat.reduceBEq, Nat.reduceEqDiff, Nat.reduceLeDiff, Nat.reduceLT, Nat.reduceBneDiff, Int.reduceAdd, Int.cast_ofNat_Int, Int.toNat_natCast, Int.reduceLE, Int.reduceLT, Int.reduceToNat, Int.reduceEq, ↓reduceIte], by simp only [go_sem, Nat.reduceAdd, Nat.reduceMul, Nat.reduceSub, Nat.reduceBEq, Nat.reduceEqDiff, Nat.reduceLeDiff, Nat.reduceLT, Nat.reduceBneDiff, Int.reduceAdd, Int.cast_ofNat_Int, Int.toNat_natCast, Int.reduceLE, Int.reduceLT, Int.reduceToNat, Int.reduceEq, ↓reduceIte], by simp only [go_sem, Nat.reduceAdd, Nat.reduceMul, Nat.reduceSub, Nat.reduceBEq, Nat.reduceEqDiff, Nat.reduceLeDiff, Nat.reduceLT, Nat.reduceBneDiff, Int.reduceAdd, Int.cast_ofNat_Int, Int.toNat_natCast, Int.reduceLE, Int.reduceLT, Int.reduceToNat, Int.reduceEq, ↓reduceIte], rfl⟩
    cases l with
    | nil => exact List.Pairwise.nil
    | cons a r => simp [Sorted]
theorem ev_pdq (v : AV) (l : List En) (G : Heap) (k : Int) (hlim : lim ≤ H.length) (hg : Ow En.c 6 H G v l) (hl : l.length ≤ 12) :
    ∃ G', ev (PX hook) lim 109 [v, .int .i64 0, .int .i64 (l.length : Int), .int .i64 k, .fn 106 []] (H ++ G) = some (.tup [], H ++ G') ∧ Ow En.c 6 H G' v (eSort l) := by
  obtain ⟨G', h1, h2⟩ := ev_insertion (hook := hook) (lim := lim) v l G hlim hg (by omega)
  refine ⟨G', ev_raw _ (PF t109) rfl rfl ?_, h2⟩
  have a0 : IntKind.wrap .i64 ((l.length : Int) - 0) = (l.length : Int) := by rw [wrap_i64] <;> omega
  have d : decide ((l.length : Int) ≤ 12) = true := by rw [decide_eq_true_eq]; omega
  have rnil : ∀ (e : Env) (H : Heap), resOf e H [] = some (.tup []) := fun _ _ => rfl
  simp only [f109, go_sem, Nat.reduceAdd, Nat.reduceMul, Nat.reduceSub, Nat.reduceBEq, Nat.reduceEqDiff, Nat.reduceLeDiff, Nat.reduceLT, Nat.reduceBneDiff, Int.reduceAdd, Int.cast_ofNat_Int, Int.toNat_natCast, Int.reduceLE, Int.reduceLT, Int.reduceToNat, Int.reduceEq, ↓reduceIte, GO_unroll]
  simp only [f109b0, go_sem, Nat.reduceAdd, Nat.reduceMul, Nat.reduceSub, Nat.reduceBEq, Nat.reduceEqDiff, Nat.reduceLeDiff, Nat.reduceLT, Nat.reduceBneDiff, Int.reduceAdd, Int.cast_ofNat_Int, Int.toNat_natCast, Int.reduceLE, Int.reduceLT, Int.reduceToNat, Int.reduceEq, ↓reduceIte, a0, d, h1, rnil]
theorem ev_SortFunc (v : AV) (l : List En) (G : Heap) (hlim : lim ≤ H.length) (hg : Ow En.c 6 H G v l) (hl : l.length ≤ 12) :
    ∃ G', ev (PX hook) lim 105 [v, .fn 106 []] (H ++ G) = some (.tup [], H ++ G') ∧ Ow En.c 6 H G' v (eSort l) := by
  obtain ⟨n, hn⟩ := ev_BitsLen (hook := hook) (BitVec.ofInt 64 (l.length : Int))
  obtain ⟨G', h1, h2⟩ := ev_pdq (hook := hook) (lim := lim) v l G n hlim hg hl
  refine ⟨G', ev_raw _ (PF t105) rfl rfl ?_, h2⟩
  have hlen := (hg.lst En.len).len'
  have rnil : ∀ (e : Env) (H : Heap), resOf e H [] = some (.tup []) := fun _ _ => rfl
  simp only [f105, go_sem, Nat.reduceAdd, Nat.reduceMul, Nat.reduceSub, Nat.reduceBEq, Nat.reduceEqDiff, Nat.reduceLeDiff, Nat.reduceLT, Nat.reduceBneDiff, Int.reduceAdd, Int.cast_ofNat_Int, Int.toNat_natCast, Int.reduceLE, Int.reduceLT, Int.reduceToNat, Int.reduceEq, ↓reduceIte, hlen, hn, h1, rnil]
theorem ev_CloneE (v : AV) (l : List En) (hv : Lst En.c 6 H v l) (hl : l.length < 1000000) : ∃ v' L, ev (PX hook) lim 104 [v] H = some (v', H ++ L) ∧ Ow En.c 6 H L v' l := by
  suffices hs : EV (PX hook) lim 104 [v] H fun v' H' => ∃ L, H' = H ++ L ∧ Ow En.c 6 H L v' l by
    rw [EV_iff] at hs; obtain ⟨v', H', h1, L, rfl, h2⟩ := hs; exact ⟨v', L, h1, h2⟩
  rw [EV_own _ (PF t104) rfl (by decide)]
  have hcl := cat_length En.len l
  have hsl := hv.slen
  have hsrc := hv.src [.rw 0 6 []]
  rcases hv with ⟨rfl, rfl⟩ | ⟨id, ver, off, m, cs, rfl, h2, h3, h4, h5⟩
  · have hn : nileqV H .slice .nils .nils = some true := rfl
    simp only [f104, go_sem, Nat.reduceAdd, Nat.reduceMul, Nat.reduceSub, Nat.reduceBEq, Nat.reduceEqDiff, Nat.reduceLeDiff, Nat.reduceLT, Nat.reduceBneDiff, Int.reduceAdd, Int.cast_ofNat_Int, Int.toNat_natCast, Int.reduceLE, Int.reduceLT, Int.reduceToNat, Int.reduceEq, ↓reduceIte, hn]
    exact ⟨[], by simp, Or.inl ⟨rfl, rfl⟩⟩
  · have hn : nileqV H .slice (.sl id ver off l.length m) .nils = some false := by
      show (if (H.cells id ver).isSome = true then some false else none) = some false
      rw [h2]; rfl
    by_cases hz : l.length = 0
    · have hl0 : l = [] := List.eq_nil_of_length_eq_zero hz
      subst hl0
      have ha : appendV (H ++ [Blk.rw 0 6 []]) H.length 6 48 (.sl H.length 0 0 0 true) (.sl id ver off 0 m) = some (.sl H.length 0 0 0 true, H ++ [Blk.rw 0 6 []]) := by
        have hs0 : srcCells (H ++ [Blk.rw 0 6 []]) 6 0 (.sl id ver off 0 m) = some [] := hsrc
        have hs1 : srcCells (H ++ [Blk.rw 0 6 []]) 6 0 (.sl H.length 0 0 0 true) = some [] := by simp [srcCells, Heap.cells_tl0, Heap.cells_zero_rw]
        simp only [appendV, AV.slen, hs0, hs1]
        rfl
      have how : Ow En.c 6 H [Blk.rw 0 6 []] (.sl H.length 0 0 0 true) [] := Or.inr ⟨H.length, 0, true, Nat.le_refl _, rfl, by simp [cat]⟩
      obtain ⟨v', L', hfin, ho⟩ := how.keep0 En.fl
      simp only [List.length_nil] at hn
      simp only [f104, go_sem, Nat.reduceAdd, Nat.reduceMul, Nat.reduceSub, Nat.reduceBEq, Nat.reduceEqDiff, Nat.reduceLeDiff, Nat.reduceLT, Nat.reduceBneDiff, Int.reduceAdd, Int.cast_ofNat_Int, Int.toNat_natCast, Int.reduceLE, Int.reduceLT, Int.reduceToNat, Int.reduceEq, ↓reduceIte, hn, ha, hfin]
      exact ⟨L', rfl, ho⟩
    · have ha : appendV (H ++ [Blk.rw 0 6 []]) H.length 6 48 (.sl H.length 0 0 0 true) (.sl id ver off l.length m) = some (.sl (H.length + 1) 0 0 l.length false, H ++ [Blk.rw 0 6 [], .rw 0 6 (cat En.c l)]) := by
        simp only [appendV, hsl, hsrc]
        have hb : (0 + l.length) * 48 ≤ 140737488355328 := by omega
        rw [show srcCells (H ++ [Blk.rw 0 6 []]) 6 0 (.sl H.length 0 0 0 true) = some [] by simp [srcCells, Heap.cells_tl0, Heap.cells_zero_rw]]
        simp [hb, hz]
        omega
      have how : Ow En.c 6 H [Blk.rw 0 6 [], .rw 0 6 (cat En.c l)] (.sl (H.length + 1) 0 0 l.length false) l := Or.inr ⟨H.length + 1, 0, false, by omega, rfl, by rw [List.getElem?_append_right (by omega), Nat.add_sub_cancel_left]; rfl⟩
      obtain ⟨v', L', hfin, ho⟩ := how.keep0 En.fl
      simp only [f104, go_sem, Nat.reduceAdd, Nat.reduceMul, Nat.reduceSub, Nat.reduceBEq, Nat.reduceEqDiff, Nat.reduceLeDiff, Nat.reduceLT, Nat.reduceBneDiff, Int.reduceAdd, Int.cast_ofNat_Int, Int.toNat_natCast, Int.reduceLE, Int.reduceLT, Int.reduceToNat, Int.reduceEq, ↓reduceIte, hn, ha, hfin]
      exact ⟨L', rfl, ho⟩
theorem ev_Sort (v : AV) (l : List En) (hv : Lst En.c 6 H v l) (hl : l.length ≤ 12) : ∃ v' L, ev (PX hook) lim 87 [v] H = some (v', H ++ L) ∧ Ow En.c 6 H L v' (eSort l) := by
  suffices hs : EV (PX hook) lim 87 [v] H fun v' H' => ∃ L, H' = H ++ L ∧ Ow En.c 6 H L v' (eSort l) by
    rw [EV_iff] at hs; obtain ⟨v', H', h1, L, rfl, h2⟩ := hs; exact ⟨v', L, h1, h2⟩
  rw [EV_own _ (PF t87) rfl (by decide)]
  obtain ⟨v1, L1, h1, g1⟩ := ev_CloneE (hook := hook) (lim := H.length) v l hv (by omega)
  obtain ⟨L2, h2, g2⟩ := ev_SortFunc (hook := hook) (lim := H.length) v1 l L1 (Nat.le_refl _) g1 hl
  obtain ⟨v', L', hfin, ho⟩ := g2.keep0 En.fl
  simp only [f87, go_sem, Nat.reduceAdd, Nat.reduceMul, Nat.reduceSub, Nat.reduceBEq, Nat.reduceEqDiff, Nat.reduceLeDiff, Nat.reduceLT, Nat.reduceBneDiff, Int.reduceAdd, Int.cast_ofNat_Int, Int.toNat_natCast, Int.reduceLE, Int.reduceLT, Int.reduceToNat, Int.reduceEq, ↓reduceIte, h1, h2, hfin]
  exact ⟨L', rfl, ho⟩
end Go.Proofs.Ytmjanbhmpbhagaa.C
