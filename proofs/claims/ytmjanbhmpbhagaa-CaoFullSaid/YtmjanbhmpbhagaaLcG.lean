/- PLANS: which order is kept, what a step that sets or drops writes; the document's twins; the law's own 'awake'. Conditions: the slices show what is told. -/
import Derived.Test.YtmjanbhmpbhagaaLcF
set_option linter.unusedVariables false
set_option linter.unusedSimpArgs false
namespace Go.AM
def oneW (s : Stp) (l : List Sl) : List Wr := if s.k = 1 then eachW (fun y => y.ok && (y.e.alike s.e && (y.e.x != s.e.x))) ⟨true, s.e⟩ 0 l else eachW (fun y => y.ok && (y.e.alike s.e && true)) Sl.z 0 l
def keptBy (o : Int) (l : List Sl) : Bool := if o = 0 then longs (ents l) else if o = 1 then ordered (ents l) else false
def x0 : En := En.ofP 0#128 0 1
def l0 : List Sl := [Sl.z, ⟨true, x0⟩, ⟨true, x0⟩]
theorem fill3 (a b d : Sl) : fillV [.bool false, u64 0#64, u64 0#64, u64 0#64, u64 0#64, .int .i64 0, .int .i64 0, .bool false, u64 0#64, u64 0#64, u64 0#64, u64 0#64, .int .i64 0, .int .i64 0, .bool false, u64 0#64, u64 0#64, u64 0#64, u64 0#64, .int .i64 0, .int .i64 0] [(0, 7, .agg a.c), (7, 7, .agg b.c), (14, 7, .agg d.c)] = some (cat Sl.c [a, b, d]) := by simp only [Sl.c, cat, go_sem, Nat.reduceAdd, Nat.reduceMul, Nat.reduceSub, Nat.reduceBEq, Nat.reduceEqDiff, Nat.reduceLeDiff, Nat.reduceLT, Nat.reduceBneDiff, Int.reduceAdd, Int.cast_ofNat_Int, Int.toNat_natCast, Int.reduceLE, Int.reduceLT, Int.reduceToNat, Int.reduceEq, ↓reduceIte]
theorem fill3z (b d : Sl) : fillV [.bool false, u64 0#64, u64 0#64, u64 0#64, u64 0#64, .int .i64 0, .int .i64 0, .bool false, u64 0#64, u64 0#64, u64 0#64, u64 0#64, .int .i64 0, .int .i64 0, .bool false, u64 0#64, u64 0#64, u64 0#64, u64 0#64, .int .i64 0, .int .i64 0] [(0, 7, .agg [.bool false, u64 0#64, u64 0#64, u64 0#64, u64 0#64, .int .i64 0, .int .i64 0]), (7, 7, .agg b.c), (14, 7, .agg d.c)] = some (cat Sl.c [Sl.z, b, d]) := fill3 Sl.z b d
end Go.AM
namespace Go.Proofs.Ytmjanbhmpbhagaa.C
open Go.AM
variable {hook : Nat → Nat → List AV → Heap → Option (AV × Heap)} {lim : Nat} {H : Heap}
theorem ev_orders : ev (PX hook) lim 52 [] H = some (.sl H.length 0 0 2 true, H ++ [.rw 0 2 [.fn 81 [], .fn 82 [], .fn 37 [], .fn 31 []]]) := by
  refine ev_own _ (PF t52) rfl (by decide) ?_
  have hfl : AV.flats [.fn 81 [], .fn 82 [], .fn 37 [], .fn 31 []] = true := rfl
  simp only [f52, go_sem, Nat.reduceAdd, Nat.reduceMul, Nat.reduceSub, Nat.reduceBEq, Nat.reduceEqDiff, Nat.reduceLeDiff, Nat.reduceLT, Nat.reduceBneDiff, Int.reduceAdd, Int.cast_ofNat_Int, Int.toNat_natCast, Int.reduceLE, Int.reduceLT, Int.reduceToNat, Int.reduceEq, ↓reduceIte, hfl]
theorem ev_planKept (o : Int) (v : AV) (l : List Sl) (hv : Lst Sl.c 7 H v l) (hl : l.length < 1000000) : ev (PX hook) lim 19 [.int .i64 o, v] H = some (.bool (keptBy o l), H) := by
  refine ev_own _ (PF t19) rfl (by decide) ?_
  have k0 := fun L => ev_ploKept (hook := hook) (lim := H.length) v l (hv.more L) hl
  have k1 := fun L => ev_caoKept (hook := hook) (lim := H.length) v l (hv.more L) hl
  unfold keptBy
  by_cases h0 : o = 0
  · subst h0
    have a : ((0 : Int) == 0) = true := rfl
    have b : decide ((0 : Int) < 2) = true := rfl
    simp only [f19, go_sem, Nat.reduceAdd, Nat.reduceMul, Nat.reduceSub, Nat.reduceBEq, Nat.reduceEqDiff, Nat.reduceLeDiff, Nat.reduceLT, Nat.reduceBneDiff, Int.reduceAdd, Int.cast_ofNat_Int, Int.toNat_natCast, Int.reduceLE, Int.reduceLT, Int.reduceToNat, Int.reduceEq, ↓reduceIte, ev_Order, ev_orders, iaddrSV_eq, a, k0, Int.lt_irrefl]
  · by_cases h1 : o = 1
    · subst h1
      have a : ((1 : Int) == 0) = false := rfl
      have b : ((1 : Int) == 1) = true := rfl
      simp only [f19, go_sem, Nat.reduceAdd, Nat.reduceMul, Nat.reduceSub, Nat.reduceBEq, Nat.reduceEqDiff, Nat.reduceLeDiff, Nat.reduceLT, Nat.reduceBneDiff, Int.reduceAdd, Int.cast_ofNat_Int, Int.toNat_natCast, Int.reduceLE, Int.reduceLT, Int.reduceToNat, Int.reduceEq, ↓reduceIte, ev_Order, ev_orders, iaddrSV_eq, a, b, k1, show (0 : Int) ≤ 1 by omega, show (1 : Int) < 2 by omega]
    · have a : (o == 0) = false := by simp [h0]
      have b : (o == 1) = false := by simp [h1]
      simp only [f19, go_sem, Nat.reduceAdd, Nat.reduceMul, Nat.reduceSub, Nat.reduceBEq, Nat.reduceEqDiff, Nat.reduceLeDiff, Nat.reduceLT, Nat.reduceBneDiff, Int.reduceAdd, Int.cast_ofNat_Int, Int.toNat_natCast, Int.reduceLE, Int.reduceLT, Int.reduceToNat, Int.reduceEq, ↓reduceIte, ev_Order, a, b, h0, h1]
theorem ev_rKept (o : Int) (v : AV) (l : List Sl) (hv : Lst Sl.c 7 H v l) (hl : l.length < 1000000) : ev (PX hook) lim 20 [.int .i64 o, v] H = some (.bool (keptBy o l), H) := by
  refine ev_own _ (PF t20) rfl (by decide) ?_
  have k0 := ev_rploKept (hook := hook) (lim := H.length) v l hv hl
  obtain ⟨v', L, he, hg⟩ := ev_rEntries (hook := hook) (lim := H.length) v l hv hl
  have k1 := ev_rOrdered (hook := hook) (lim := H.length) v' (ents l) hg.lst (by have := ents_le l; omega)
  unfold keptBy
  by_cases h0 : o = 0
  · subst h0
    have a : ((0 : Int) == 0) = true := rfl
    simp only [f20, go_sem, Nat.reduceAdd, Nat.reduceMul, Nat.reduceSub, Nat.reduceBEq, Nat.reduceEqDiff, Nat.reduceLeDiff, Nat.reduceLT, Nat.reduceBneDiff, Int.reduceAdd, Int.cast_ofNat_Int, Int.toNat_natCast, Int.reduceLE, Int.reduceLT, Int.reduceToNat, Int.reduceEq, ↓reduceIte, a, k0]
  · have a : (o == 0) = false := by simp [h0]
    by_cases h1 : o = 1
    · subst h1
      have b : ((1 : Int) == 1) = true := rfl
      simp only [f20, go_sem, Nat.reduceAdd, Nat.reduceMul, Nat.reduceSub, Nat.reduceBEq, Nat.reduceEqDiff, Nat.reduceLeDiff, Nat.reduceLT, Nat.reduceBneDiff, Int.reduceAdd, Int.cast_ofNat_Int, Int.toNat_natCast, Int.reduceLE, Int.reduceLT, Int.reduceToNat, Int.reduceEq, ↓reduceIte, a, b, he, k1, h0]
    · have b : (o == 1) = false := by simp [h1]
      simp only [f20, go_sem, Nat.reduceAdd, Nat.reduceMul, Nat.reduceSub, Nat.reduceBEq, Nat.reduceEqDiff, Nat.reduceLeDiff, Nat.reduceLT, Nat.reduceBneDiff, Int.reduceAdd, Int.cast_ofNat_Int, Int.toNat_natCast, Int.reduceLE, Int.reduceLT, Int.reduceToNat, Int.reduceEq, ↓reduceIte, a, b, h0, h1]
theorem ev_planOne_bad (o : Int) (v : AV) (s : Stp) (h : (((o == 0) || (o == 1)) && s.e.right) = false) : ev (PX hook) lim 14 [.int .i64 o, v, .agg s.c] H = some (.tup [.nils, .int .i64 1], H) := by
  refine ev_own _ (PF t14) rfl (by decide) ?_
  have ff : finish .slices H.length (.tup [.nils, .int .i64 1]) (H ++ [Blk.rw 0 7 s.c]) = some (.tup [.nils, .int .i64 1], H) := finish_two 1 (finish_nils _ _) (fun _ h => by cases h)
  cases h1 : ((o == 0) || (o == 1))
  · simp only [f14, go_sem, Nat.reduceAdd, Nat.reduceMul, Nat.reduceSub, Nat.reduceBEq, Nat.reduceEqDiff, Nat.reduceLeDiff, Nat.reduceLT, Nat.reduceBneDiff, Int.reduceAdd, Int.cast_ofNat_Int, Int.toNat_natCast, Int.reduceLE, Int.reduceLT, Int.reduceToNat, Int.reduceEq, ↓reduceIte, ev_Order, h1, ff]
  · have h2 : s.e.right = false := by rw [h1, Bool.true_and] at h; exact h
    simp only [f14, go_sem, Nat.reduceAdd, Nat.reduceMul, Nat.reduceSub, Nat.reduceBEq, Nat.reduceEqDiff, Nat.reduceLeDiff, Nat.reduceLT, Nat.reduceBneDiff, Int.reduceAdd, Int.cast_ofNat_Int, Int.toNat_natCast, Int.reduceLE, Int.reduceLT, Int.reduceToNat, Int.reduceEq, ↓reduceIte, ev_Order, h1, ev_ERight, h2, ff]
theorem ev_planOne_kind (o : Int) (v : AV) (s : Stp) (h1 : ((o == 0) || (o == 1)) = true) (h2 : s.e.right = true) (h3 : s.k ≠ 0) (h4 : s.k ≠ 1) (h5 : s.k ≠ 2) : ev (PX hook) lim 14 [.int .i64 o, v, .agg s.c] H = some (.tup [.nils, .int .i64 1], H) := by
  refine ev_own _ (PF t14) rfl (by decide) ?_
  have ff : finish .slices H.length (.tup [.nils, .int .i64 1]) (H ++ [Blk.rw 0 7 s.c]) = some (.tup [.nils, .int .i64 1], H) := finish_two 1 (finish_nils _ _) (fun _ h => by cases h)
  have a : (s.k == 0) = false := by simp [h3]
  have b : (s.k == 1) = false := by simp [h4]
  have c : (s.k == 2) = false := by simp [h5]
  simp only [f14, go_sem, Nat.reduceAdd, Nat.reduceMul, Nat.reduceSub, Nat.reduceBEq, Nat.reduceEqDiff, Nat.reduceLeDiff, Nat.reduceLT, Nat.reduceBneDiff, Int.reduceAdd, Int.cast_ofNat_Int, Int.toNat_natCast, Int.reduceLE, Int.reduceLT, Int.reduceToNat, Int.reduceEq, ↓reduceIte, ev_Order, h1, ev_ERight, h2, a, b, c, ff]
theorem ev_planOne12 (o : Int) (v : AV) (l : List Sl) (s : Stp) (hv : Lst Sl.c 7 H v l) (hl : l.length < 1000000) (h1 : ((o == 0) || (o == 1)) = true) (h2 : s.e.right = true) (h3 : s.k = 1 ∨ s.k = 2) :
    ∃ v' L, ev (PX hook) lim 14 [.int .i64 o, v, .agg s.c] H = some (.tup [v', .int .i64 0], H ++ L) ∧ Gr Wr.c 8 H L v' (oneW s l) := by
  have hv' := hv.more [Blk.rw 0 7 s.c]
  rcases h3 with h3 | h3
  · obtain ⟨v1, L1, he, hg⟩ := ev_each (hook := hook) (lim := H.length) v l s.e ⟨true, s.e⟩ 45 [.ptr H.length 0 0] (fun y => y.x != s.e.x) hv' hl (fun L y => ev_One1 y s _ _ _ (fun L' => by simp only [go_sem, Nat.reduceAdd, Nat.reduceMul, Nat.reduceSub, Nat.reduceBEq, Nat.reduceEqDiff, Nat.reduceLeDiff, Nat.reduceLT, Nat.reduceBneDiff, Int.reduceAdd, Int.cast_ofNat_Int, Int.toNat_natCast, Int.reduceLE, Int.reduceLT, Int.reduceToNat, Int.reduceEq, ↓reduceIte]) rfl)
    obtain ⟨v', L', hfin, hg'⟩ := hg.keep Wr.fl
    have ff := finish_two 0 hfin hg.notup
    refine ⟨v', L', ev_own _ (PF t14) rfl (by decide) ?_, by unfold oneW; rw [if_pos h3]; exact hg'⟩
    have a : ((1 : Int) == 0) = false := rfl
    have b : ((1 : Int) == 1) = true := rfl
    simp only [go_sem, Nat.reduceAdd, Nat.reduceMul, Nat.reduceSub, Nat.reduceBEq, Nat.reduceEqDiff, Nat.reduceLeDiff, Nat.reduceLT, Nat.reduceBneDiff, Int.reduceAdd, Int.cast_ofNat_Int, Int.toNat_natCast, Int.reduceLE, Int.reduceLT, Int.reduceToNat, Int.reduceEq, ↓reduceIte] at he ff
    simp only [f14, go_sem, Nat.reduceAdd, Nat.reduceMul, Nat.reduceSub, Nat.reduceBEq, Nat.reduceEqDiff, Nat.reduceLeDiff, Nat.reduceLT, Nat.reduceBneDiff, Int.reduceAdd, Int.cast_ofNat_Int, Int.toNat_natCast, Int.reduceLE, Int.reduceLT, Int.reduceToNat, Int.reduceEq, ↓reduceIte, ev_Order, h1, ev_ERight, h2, h3, a, b, he, ff]
  · have hz : Sl.c Sl.z = [.bool false, u64 0#64, u64 0#64, u64 0#64, u64 0#64, .int .i64 0, .int .i64 0] := rfl
    obtain ⟨v1, L1, he, hg⟩ := ev_each (hook := hook) (lim := H.length) v l s.e Sl.z 47 [] (fun _ => true) hv' hl (fun L y => ev_One2 y)
    obtain ⟨v', L', hfin, hg'⟩ := hg.keep Wr.fl
    have ff := finish_two 0 hfin hg.notup
    refine ⟨v', L', ev_own _ (PF t14) rfl (by decide) ?_, by unfold oneW; rw [if_neg (by omega)]; exact hg'⟩
    have a : ((2 : Int) == 0) = false := rfl
    have b : ((2 : Int) == 1) = false := rfl
    have c : ((2 : Int) == 2) = true := rfl
    rw [hz] at he
    simp only [go_sem, Nat.reduceAdd, Nat.reduceMul, Nat.reduceSub, Nat.reduceBEq, Nat.reduceEqDiff, Nat.reduceLeDiff, Nat.reduceLT, Nat.reduceBneDiff, Int.reduceAdd, Int.cast_ofNat_Int, Int.toNat_natCast, Int.reduceLE, Int.reduceLT, Int.reduceToNat, Int.reduceEq, ↓reduceIte] at he ff
    simp only [f14, go_sem, Nat.reduceAdd, Nat.reduceMul, Nat.reduceSub, Nat.reduceBEq, Nat.reduceEqDiff, Nat.reduceLeDiff, Nat.reduceLT, Nat.reduceBneDiff, Int.reduceAdd, Int.cast_ofNat_Int, Int.toNat_natCast, Int.reduceLE, Int.reduceLT, Int.reduceToNat, Int.reduceEq, ↓reduceIte, ev_Order, h1, ev_ERight, h2, h3, a, b, c, he, ff]
theorem ev_rTwins (v : AV) (l : List Sl) (hv : Lst Sl.c 7 H v l) (hl : l.length < 1000000) : ∃ v' L, ev (PX hook) lim 28 [v] H = some (v', H ++ L) ∧ Gr Wr.c 8 H L v' (twinsW [] l) := by
  suffices hs : EV (PX hook) lim 28 [v] H fun v' H' => ∃ L, H' = H ++ L ∧ Gr Wr.c 8 H L v' (twinsW [] l) by
    rw [EV_iff] at hs; obtain ⟨v', H', h1, L, rfl, h2⟩ := hs; exact ⟨v', L, h1, h2⟩
  rw [EV_own _ (PF t28) rfl (by decide)]
  have hlen := hv.len
  simp only [f28, go_sem, Nat.reduceAdd, Nat.reduceMul, Nat.reduceSub, Nat.reduceBEq, Nat.reduceEqDiff, Nat.reduceLeDiff, Nat.reduceLT, Nat.reduceBneDiff, Int.reduceAdd, Int.cast_ofNat_Int, Int.toNat_natCast, Int.reduceLE, Int.reduceLT, Int.reduceToNat, Int.reduceEq, ↓reduceIte]
  refine GO_loop _ (fun m e H' => ∃ (k : Nat) (G : Heap), k + m = l.length ∧ Gr Wr.c 8 H G (e 3) (twinsW [] (l.take k)) ∧ e 0 = v ∧ e 4 = .int .i64 (k : Int) ∧ H' = H ++ G) ?_ l.length _ _ ?_
  · rintro m e H' ⟨k, G, hk, hg, i0, i4, rfl⟩
    cases m with
    | zero =>
      have hk' : k = l.length := by omega
      subst hk'
      rw [List.take_length] at hg
      obtain ⟨v', L', hfin, hsh⟩ := hg.keep0 Wr.fl
      simp only [f28b1, go_sem, Nat.reduceAdd, Nat.reduceMul, Nat.reduceSub, Nat.reduceBEq, Nat.reduceEqDiff, Nat.reduceLeDiff, Nat.reduceLT, Nat.reduceBneDiff, Int.reduceAdd, Int.cast_ofNat_Int, Int.toNat_natCast, Int.reduceLE, Int.reduceLT, Int.reduceToNat, Int.reduceEq, ↓reduceIte, i0, i4, hlen, lt_false, hfin]
      exact ⟨L', rfl, hsh⟩
    | succ m =>
      obtain ⟨s, hx, _⟩ := get_of_lt (show k < l.length by omega)
      obtain ⟨id, ver, q, E⟩ := hv.at (by omega) Sl.len hx
      have d := lt_true (show k < l.length by omega)
      have a1 := wrap_succ (show k < 1000000 by omega)
      have hlk : (l.take k).length = k := by rw [List.length_take]; omega
      have hsn := twinsW_snoc [] (l.take k) s
      rw [List.nil_append, hlk] at hsn
      have hle := twinsW_le [] (l.take k)
      simp only [f28b1, go_sem, Nat.reduceAdd, Nat.reduceMul, Nat.reduceSub, Nat.reduceBEq, Nat.reduceEqDiff, Nat.reduceLeDiff, Nat.reduceLT, Nat.reduceBneDiff, Int.reduceAdd, Int.cast_ofNat_Int, Int.toNat_natCast, Int.reduceLE, Int.reduceLT, Int.reduceToNat, Int.reduceEq, ↓reduceIte, i0, i4, hlen, d]
      refine GO_loop _ (fun n e' H'' => ∃ j : Nat, j + n = k ∧ e' 5 = .bool ((l.take j).any (twin s)) ∧ e' 3 = e 3 ∧ e' 0 = v ∧ e' 4 = .int .i64 (k : Int) ∧ e' 6 = .int .i64 (j : Int) ∧ H'' = H ++ G) ?_ k _ _ ?_
      · rintro n e' H'' ⟨j, hj, j5, j3, j0, j4, j6, rfl⟩
        cases n with
        | zero =>
          have hj' : j = k := by omega
          subst hj'
          cases ht : (l.take j).any (twin s)
          · rw [ht] at hsn j5
            simp only [Bool.false_eq_true, if_false, List.append_nil] at hsn
            simp only [f28b0, go_sem, Nat.reduceAdd, Nat.reduceMul, Nat.reduceSub, Nat.reduceBEq, Nat.reduceEqDiff, Nat.reduceLeDiff, Nat.reduceLT, Nat.reduceBneDiff, Int.reduceAdd, Int.cast_ofNat_Int, Int.toNat_natCast, Int.reduceLE, Int.reduceLT, Int.reduceToNat, Int.reduceEq, ↓reduceIte, j0, j3, j4, j5, j6, lt_false, a1]
            exact ⟨m, by omega, j + 1, G, by omega, by rw [take_succ_of hx, hsn]; exact hg, rfl, rfl⟩
          · rw [ht] at hsn j5
            simp only [if_true] at hsn
            obtain ⟨v', G', ha, hg'⟩ := hg.push0 (bytes := 64) (lim := H.length) (⟨(j : Int), Sl.z⟩ : Wr) rfl (Nat.le_refl _) (by omega)
            simp only [Wr.c, Sl.z, En.z, hi_zero, lo_zero, go_sem, Nat.reduceAdd, Nat.reduceMul, Nat.reduceSub, Nat.reduceBEq, Nat.reduceEqDiff, Nat.reduceLeDiff, Nat.reduceLT, Nat.reduceBneDiff, Int.reduceAdd, Int.cast_ofNat_Int, Int.toNat_natCast, Int.reduceLE, Int.reduceLT, Int.reduceToNat, Int.reduceEq, ↓reduceIte] at ha
            simp only [f28b0, go_sem, Nat.reduceAdd, Nat.reduceMul, Nat.reduceSub, Nat.reduceBEq, Nat.reduceEqDiff, Nat.reduceLeDiff, Nat.reduceLT, Nat.reduceBneDiff, Int.reduceAdd, Int.cast_ofNat_Int, Int.toNat_natCast, Int.reduceLE, Int.reduceLT, Int.reduceToNat, Int.reduceEq, ↓reduceIte, j0, j3, j4, j5, j6, lt_false, a1, ha]
            exact ⟨m, by omega, j + 1, G', by omega, by rw [take_succ_of hx, hsn]; exact hg', rfl, rfl⟩
        | succ n =>
          obtain ⟨y, hy, _⟩ := get_of_lt (show j < l.length by omega)
          obtain ⟨jd, wer, q', F⟩ := hv.at (by omega) Sl.len hy
          have d' := lt_true (show j < k by omega)
          have a1' := wrap_succ (show j < 1000000 by omega)
          have hsn' : (l.take (j + 1)).any (twin s) = ((l.take j).any (twin s) || twin s y) := by rw [take_succ_of hy, any_snoc]
          cases b1 : s.ok
          · have ht : twin s y = false := by simp [twin, b1]
            rw [ht, Bool.or_false] at hsn'
            simp only [f28b0, go_sem, Nat.reduceAdd, Nat.reduceMul, Nat.reduceSub, Nat.reduceBEq, Nat.reduceEqDiff, Nat.reduceLeDiff, Nat.reduceLT, Nat.reduceBneDiff, Int.reduceAdd, Int.cast_ofNat_Int, Int.toNat_natCast, Int.reduceLE, Int.reduceLT, Int.reduceToNat, Int.reduceEq, ↓reduceIte, j0, j3, j4, j5, j6, d', a1', E.adr, E.adr', E.cel, E.cel', E.all, E.all', E.part, E.part', E.part0, E.part0', E.one, E.one', E.one0, E.one0', F.adr, F.adr', F.cel, F.cel', F.all, F.all', F.part, F.part', F.part0, F.part0', F.one, F.one', F.one0, F.one0', b1]
            exact ⟨n, by omega, j + 1, by omega, by rw [hsn'], rfl⟩
          · cases b2 : y.ok
            · have ht : twin s y = false := by simp [twin, b2]
              rw [ht, Bool.or_false] at hsn'
              simp only [f28b0, go_sem, Nat.reduceAdd, Nat.reduceMul, Nat.reduceSub, Nat.reduceBEq, Nat.reduceEqDiff, Nat.reduceLeDiff, Nat.reduceLT, Nat.reduceBneDiff, Int.reduceAdd, Int.cast_ofNat_Int, Int.toNat_natCast, Int.reduceLE, Int.reduceLT, Int.reduceToNat, Int.reduceEq, ↓reduceIte, j0, j3, j4, j5, j6, d', a1', E.adr, E.adr', E.cel, E.cel', E.all, E.all', E.part, E.part', E.part0, E.part0', E.one, E.one', E.one0, E.one0', F.adr, F.adr', F.cel, F.cel', F.all, F.all', F.part, F.part', F.part0, F.part0', F.one, F.one', F.one0, F.one0', b1, b2]
              exact ⟨n, by omega, j + 1, by omega, by rw [hsn'], rfl⟩
            · cases b3 : s.e.alike y.e
              · have ht : twin s y = false := by simp [twin, b3]
                rw [ht, Bool.or_false] at hsn'
                simp only [f28b0, go_sem, Nat.reduceAdd, Nat.reduceMul, Nat.reduceSub, Nat.reduceBEq, Nat.reduceEqDiff, Nat.reduceLeDiff, Nat.reduceLT, Nat.reduceBneDiff, Int.reduceAdd, Int.cast_ofNat_Int, Int.toNat_natCast, Int.reduceLE, Int.reduceLT, Int.reduceToNat, Int.reduceEq, ↓reduceIte, j0, j3, j4, j5, j6, d', a1', E.adr, E.adr', E.cel, E.cel', E.all, E.all', E.part, E.part', E.part0, E.part0', E.one, E.one', E.one0, E.one0', F.adr, F.adr', F.cel, F.cel', F.all, F.all', F.part, F.part', F.part0, F.part0', F.one, F.one', F.one0, F.one0', b1, b2, ev_rAlike, b3]
                exact ⟨n, by omega, j + 1, by omega, by rw [hsn'], rfl⟩
              · have ht : twin s y = true := by simp [twin, b1, b2, b3]
                rw [ht, Bool.or_true] at hsn'
                simp only [f28b0, go_sem, Nat.reduceAdd, Nat.reduceMul, Nat.reduceSub, Nat.reduceBEq, Nat.reduceEqDiff, Nat.reduceLeDiff, Nat.reduceLT, Nat.reduceBneDiff, Int.reduceAdd, Int.cast_ofNat_Int, Int.toNat_natCast, Int.reduceLE, Int.reduceLT, Int.reduceToNat, Int.reduceEq, ↓reduceIte, j0, j3, j4, j5, j6, d', a1', E.adr, E.adr', E.cel, E.cel', E.all, E.all', E.part, E.part', E.part0, E.part0', E.one, E.one', E.one0, E.one0', F.adr, F.adr', F.cel, F.cel', F.all, F.all', F.part, F.part', F.part0, F.part0', F.one, F.one', F.one0, F.one0', b1, b2, ev_rAlike, b3]
                exact ⟨n, by omega, j + 1, by omega, by rw [hsn'], rfl⟩
      · exact ⟨0, by omega, by simp only [go_sem, Nat.reduceAdd, Nat.reduceMul, Nat.reduceSub, Nat.reduceBEq, Nat.reduceEqDiff, Nat.reduceLeDiff, Nat.reduceLT, Nat.reduceBneDiff, Int.reduceAdd, Int.cast_ofNat_Int, Int.toNat_natCast, Int.reduceLE, Int.reduceLT, Int.reduceToNat, Int.reduceEq, ↓reduceIte]; simp, by simp only [go_sem, Nat.reduceAdd, Nat.reduceMul, Nat.reduceSub, Nat.reduceBEq, Nat.reduceEqDiff, Nat.reduceLeDiff, Nat.reduceLT, Nat.reduceBneDiff, Int.reduceAdd, Int.cast_ofNat_Int, Int.toNat_natCast, Int.reduceLE, Int.reduceLT, Int.reduceToNat, Int.reduceEq, ↓reduceIte], by simp only [go_sem, Nat.reduceAdd, Nat.reduceMul, Nat.reduceSub, Nat.reduceBEq, Nat.reduceEqDiff, Nat.reduceLeDiff, Nat.reduceLT, Nat.reduceBneDiff, Int.reduceAdd, Int.cast_ofNat_Int, Int.toNat_natCast, Int.reduceLE, Int.reduceLT, Int.reduceToNat, Int.reduceEq, ↓reduceIte, i0], by simp only [go_sem, Nat.reduceAdd, Nat.reduceMul, Nat.reduceSub, Nat.reduceBEq, Nat.reduceEqDiff, Nat.reduceLeDiff, Nat.reduceLT, Nat.reduceBneDiff, Int.reduceAdd, Int.cast_ofNat_Int, Int.toNat_natCast, Int.reduceLE, Int.reduceLT, Int.reduceToNat, Int.reduceEq, ↓reduceIte, i4], by simp only [go_sem, Nat.reduceAdd, Nat.reduceMul, Nat.reduceSub, Nat.reduceBEq, Nat.reduceEqDiff, Nat.reduceLeDiff, Nat.reduceLT, Nat.reduceBneDiff, Int.reduceAdd, Int.cast_ofNat_Int, Int.toNat_natCast, Int.reduceLE, Int.reduceLT, Int.reduceToNat, Int.reduceEq, ↓reduceIte], rfl⟩
  · exact ⟨0, [], by omega, Gr.nil, by simp only [go_sem, Nat.reduceAdd, Nat.reduceMul, Nat.reduceSub, Nat.reduceBEq, Nat.reduceEqDiff, Nat.reduceLeDiff, Nat.reduceLT, Nat.reduceBneDiff, Int.reduceAdd, Int.cast_ofNat_Int, Int.toNat_natCast, Int.reduceLE, Int.reduceLT, Int.reduceToNat, Int.reduceEq, ↓reduceIte], by simp only [go_sem, Nat.reduceAdd, Nat.reduceMul, Nat.reduceSub, Nat.reduceBEq, Nat.reduceEqDiff, Nat.reduceLeDiff, Nat.reduceLT, Nat.reduceBneDiff, Int.reduceAdd, Int.cast_ofNat_Int, Int.toNat_natCast, Int.reduceLE, Int.reduceLT, Int.reduceToNat, Int.reduceEq, ↓reduceIte], by simp only [go_sem, Nat.reduceAdd, Nat.reduceMul, Nat.reduceSub, Nat.reduceBEq, Nat.reduceEqDiff, Nat.reduceLeDiff, Nat.reduceLT, Nat.reduceBneDiff, Int.reduceAdd, Int.cast_ofNat_Int, Int.toNat_natCast, Int.reduceLE, Int.reduceLT, Int.reduceToNat, Int.reduceEq, ↓reduceIte]⟩
end Go.Proofs.Ytmjanbhmpbhagaa.C
