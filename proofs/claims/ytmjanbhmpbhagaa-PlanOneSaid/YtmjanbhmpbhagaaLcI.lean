/- THE LAWS' FUNCTIONS PlanTwins, PlanSets are true whatever comes in. Conditions: the slice shows the slots. -/
import Derived.Test.YtmjanbhmpbhagaaLcH
set_option linter.unusedVariables false
set_option linter.unusedSimpArgs false
namespace Go.Proofs.Ytmjanbhmpbhagaa.C
open Go.AM
variable {hook : Nat → Nat → List AV → Heap → Option (AV × Heap)} {lim : Nat} {H : Heap}
theorem ev_awake14 : ev (PX hook) lim 12 [] H = some (.bool true, H) := by
  refine ev_own _ (PF t12) rfl (by decide) ?_
  have e1 : ∀ lim H, ev (PX hook) lim 43 [.agg [u64 0#64, u64 0#64, .int .i64 0], .int .i64 1] H = some (.agg x0.c, H) := fun lim H => ev_EOf 0#128 0 1
  have hl0 : Lst Sl.c 7 (H ++ [Blk.rw 0 6 x0.c, .rw 0 7 (cat Sl.c l0)]) (.sl (H.length + 1) 0 0 3 true) l0 := by
    have := Lst.lit Sl.len (H ++ [Blk.rw 0 6 x0.c]) [] l0 true
    rw [show (3 : Nat) = l0.length from rfl]
    simpa using this
  obtain ⟨v1, L1, h1, g1⟩ := ev_planOne12 (hook := hook) (lim := H.length) 1 _ l0 ⟨2, x0⟩ hl0 (by decide) (by decide) (by decide +kernel) (Or.inr rfl)
  obtain ⟨v2, L2, h2, g2⟩ := ev_Twins (hook := hook) (lim := H.length) _ l0 (hl0.more L1) (by decide)
  have w1 : oneW ⟨2, x0⟩ l0 = [⟨1, Sl.z⟩, ⟨2, Sl.z⟩] := by decide +kernel
  have w2 : twinsW [] l0 = [⟨2, Sl.z⟩] := by decide +kernel
  rw [w1] at g1
  rw [w2] at g2
  have m1 := g1.lst.more L2
  obtain ⟨i1, r1, p1, E⟩ := m1.at (by omega) Wr.len (k := 0) rfl
  obtain ⟨i2, r2, p2, F⟩ := m1.at (by omega) Wr.len (k := 1) rfl
  obtain ⟨i3, r3, p3, K⟩ := g2.lst.at (by omega) Wr.len (k := 0) rfl
  have kp := ev_planKept (hook := hook) (lim := H.length) 0 _ l0 ((hl0.more L1).more L2) (by decide)
  have kb : keptBy 0 l0 = true := by decide +kernel
  rw [kb] at kp
  have q1 : eqLeaves [.int, .bool, .int, .int, .int, .int, .int, .int] (Wr.c ⟨1, Sl.z⟩) [.int .i64 1, .bool false, u64 0#64, u64 0#64, u64 0#64, u64 0#64, .int .i64 0, .int .i64 0] = some true := (eqWr ⟨1, Sl.z⟩ ⟨1, Sl.z⟩).trans (by simp)
  have q2 : eqLeaves [.int, .bool, .int, .int, .int, .int, .int, .int] (Wr.c ⟨2, Sl.z⟩) [.int .i64 2, .bool false, u64 0#64, u64 0#64, u64 0#64, u64 0#64, .int .i64 0, .int .i64 0] = some true := (eqWr ⟨2, Sl.z⟩ ⟨2, Sl.z⟩).trans (by simp)
  have a1 := E.adr'
  have a2 := E.all'
  have a3 := F.adr'
  have a4 := F.all'
  have a5 := K.adr'
  have a6 := K.one0' (by omega)
  have a7 := K.cel'
  have n1 := m1.len'
  have n2 := g2.lst.len'
  simp only [List.append_assoc, List.cons_append, List.nil_append, List.length_cons, List.length_nil, Nat.zero_add, Nat.reduceAdd] at h1 h2 kp a1 a2 a3 a4 a5 a6 a7 n1 n2
  have z0 : ((0 : Nat) : Int) = 0 := rfl
  have z1 : ((1 : Nat) : Int) = 1 := rfl
  have z2 : ((2 : Nat) : Int) = 2 := rfl
  rw [z0] at a1 a5
  rw [z1] at a3 n2
  rw [z2] at n1
  have b0 : ((0 : Int) == 0) = true := rfl
  have b1 : ((2 : Int) == 2) = true := rfl
  have b2 : ((1 : Int) == 1) = true := rfl
  have b3 : ((1 : Int) == 0) = false := rfl
  have fz := fill3z ⟨true, x0⟩ ⟨true, x0⟩
  simp only [f12, go_sem, Nat.reduceAdd, Nat.reduceMul, Nat.reduceSub, Nat.reduceBEq, Nat.reduceEqDiff, Nat.reduceLeDiff, Nat.reduceLT, Nat.reduceBneDiff, Int.reduceAdd, Int.cast_ofNat_Int, Int.toNat_natCast, Int.reduceLE, Int.reduceLT, Int.reduceToNat, Int.reduceEq, ↓reduceIte, e1, fz, show [Sl.z, ⟨true, x0⟩, ⟨true, x0⟩] = l0 from rfl, h1, h2, kp, a1, a2, a3, a4, a5, a6, a7, n1, n2, q1, q2, b0, b1, b2, b3, ev_Order]
theorem twins_loop (B : Heap) (bid : Nat) (v u : AV) (l : List Sl) (a : Adr) (hlim : lim ≤ B.length) (hv : Lst Sl.c 7 B v l) (hu : Lst Wr.c 8 B u (twinsW [] l)) (hl : l.length < 1000000) (hb : ∀ L, Heap.cells (B ++ L) bid 0 = some [u64 (hi a), u64 (lo a)]) {K : List Frm} {Q : Post} {e : Env}
    (e0 : e 0 = v) (e3 : e 3 = .ptr bid 0 0) (e6 : e 6 = v) (e22 : e 22 = u) (e23 : e 23 = .int .i64 ((twinsW [] l).length : Int)) (e24 : e 24 = .int .i64 0)
    (g : ∀ (e' : Env) (G : Heap) (x : AV), Lst Sl.c 7 (B ++ G) x (applyW l (twinsW [] l)) → e' 6 = x → ON (PX hook) lim K (.exit 0) e' (B ++ G) Q) :
    GO (PX hook) lim (.loop f6b0) K e B Q := by
  have hwl : (twinsW [] l).length < 1000000 := by have := twinsW_le [] l; omega
  refine GO_loop _ (fun m e' H' => ∃ (k : Nat) (G : Heap) (x : AV), k + m = (twinsW [] l).length ∧ Lst Sl.c 7 (B ++ G) x (applyW l ((twinsW [] l).take k)) ∧ e' 0 = v ∧ e' 3 = .ptr bid 0 0 ∧ e' 6 = x ∧ e' 22 = u ∧ e' 23 = .int .i64 ((twinsW [] l).length : Int) ∧ e' 24 = .int .i64 (k : Int) ∧ H' = B ++ G) ?_ (twinsW [] l).length _ _ ?_
  · rintro m e' H' ⟨k, G, x, hk, hx, i0, i3, i6, i22, i23, i24, rfl⟩
    cases m with
    | zero =>
      have hk' : k = (twinsW [] l).length := by omega
      rw [hk', List.take_length] at hx
      rw [hk'] at i24
      simp only [f6b0, go_sem, Nat.reduceAdd, Nat.reduceMul, Nat.reduceSub, Nat.reduceBEq, Nat.reduceEqDiff, Nat.reduceLeDiff, Nat.reduceLT, Nat.reduceBneDiff, Int.reduceAdd, Int.cast_ofNat_Int, Int.toNat_natCast, Int.reduceLE, Int.reduceLT, Int.reduceToNat, Int.reduceEq, ↓reduceIte, i0, i3, i6, i22, i23, i24, lt_false]
      exact g _ G x hx (by simp only [go_sem, Nat.reduceAdd, Nat.reduceMul, Nat.reduceSub, Nat.reduceBEq, Nat.reduceEqDiff, Nat.reduceLeDiff, Nat.reduceLT, Nat.reduceBneDiff, Int.reduceAdd, Int.cast_ofNat_Int, Int.toNat_natCast, Int.reduceLE, Int.reduceLT, Int.reduceToNat, Int.reduceEq, ↓reduceIte]; exact i6)
    | succ m =>
      obtain ⟨y, hy, _⟩ := get_of_lt (show k < (twinsW [] l).length by omega)
      obtain ⟨id, ver, q, E⟩ := hu.at (by omega) Wr.len hy
      have d := lt_true (show k < (twinsW [] l).length by omega)
      have a1 := wrap_succ (show k < 1000000 by omega)
      have hy1 : Lst Wr.c 8 (B ++ (G ++ [Blk.rw 0 8 y.c, .rw 0 8 y.c])) (.sl (B.length + (G.length + 1)) 0 0 1 true) [y] := by
        have := Lst.lit Wr.len (B ++ (G ++ [Blk.rw 0 8 y.c])) [] [y] true
        rw [cat_one] at this
        simpa [Nat.add_assoc] using this
      have hal := applyW_len l ((twinsW [] l).take k)
      have hx2 := hx.more [Blk.rw 0 8 y.c, .rw 0 8 y.c]
      rw [List.append_assoc] at hx2
      obtain ⟨v', L, hap, how⟩ := ev_Apply (hook := hook) (lim := lim) x _ (applyW l ((twinsW [] l).take k)) [y] hx2 hy1 (by omega) (by simp)
      rw [applyW_take hy] at how
      have hnow := how.lst Sl.len
      have t1 := ev_bankTell (hook := hook) (lim := lim) v' _ a hnow (by rw [applyW_len]; omega)
      have t2 := ev_bankTell (hook := hook) (lim := lim) v l a (hv.more (G ++ (Blk.rw 0 8 y.c :: .rw 0 8 y.c :: L))) hl
      rw [twins_tell] at t1
      have tt : (tells l a != tells l a) = false := by simp
      simp only [List.append_assoc, List.cons_append, List.nil_append] at hap t1 t2
      simp only [f6b0, go_sem, Nat.reduceAdd, Nat.reduceMul, Nat.reduceSub, Nat.reduceBEq, Nat.reduceEqDiff, Nat.reduceLeDiff, Nat.reduceLT, Nat.reduceBneDiff, Int.reduceAdd, Int.cast_ofNat_Int, Int.toNat_natCast, Int.reduceLE, Int.reduceLT, Int.reduceToNat, Int.reduceEq, ↓reduceIte, i0, i3, i6, i22, i23, i24, d, a1, E.adr, E.adr', E.cel, E.cel', E.all, E.all', E.part, E.part', E.part0, E.part0', E.one, E.one', E.one0, E.one0', hlim, hap, hb, t1, t2, tt]
      refine ⟨m, by omega, k + 1, G ++ (Blk.rw 0 8 y.c :: .rw 0 8 y.c :: L), v', by omega, ?_, rfl, rfl, rfl⟩
      simpa [List.append_assoc] using hnow
  · refine ⟨0, [], v, by omega, ?_, e0, e3, e6, e22, e23, e24, by simp⟩
    have : applyW l [] = l := rfl
    simpa [this] using hv
theorem planTwins_true (v : AV) (l : List Sl) (a : Adr) (hv : Lst Sl.c 7 H v l) : ev (PX hook) lim 6 [v, .agg [u64 (hi a), u64 (lo a)]] H = some (.bool true, H) := by
  refine ev_own _ (PF t6) rfl (by decide) ?_
  have hlen := hv.len
  by_cases hn : l.length ≤ 20
  · have d : decide ((20 : Int) < (l.length : Int)) = false := by rw [decide_eq_false_iff_not]; omega
    have hv1 := hv.more [Blk.rw 0 2 [u64 (hi a), u64 (lo a)]]
    obtain ⟨v1, L1, h1, g1⟩ := ev_Twins (hook := hook) (lim := H.length) v l hv1 (by omega)
    have hv2 := hv1.more L1
    obtain ⟨v2, L2, h2, g2⟩ := ev_law08Of (hook := hook) (lim := H.length) v l hv2 (by omega)
    obtain ⟨v3, L3, h3, g3⟩ := ev_rTwins (hook := hook) (lim := H.length) v2 l g2.lst (by omega)
    have hw := ev_law12Writes (hook := hook) (lim := H.length) v1 v3 _ _ ((g1.lst.more L2).more L3) g3.lst (by have := twinsW_le [] l; omega)
    have hww : decide (twinsW [] l = twinsW [] l) = true := by simp
    rw [hww] at hw
    have hn1 := ((g1.lst.more L2).more L3).len'
    have hlB : H.length ≤ ((((H ++ [Blk.rw 0 2 [u64 (hi a), u64 (lo a)]]) ++ L1) ++ L2) ++ L3).length := by simp
    have key := fun (K : List Frm) (Q : Post) (e : Env) => twins_loop (hook := hook) (lim := H.length) ((((H ++ [Blk.rw 0 2 [u64 (hi a), u64 (lo a)]]) ++ L1) ++ L2) ++ L3) H.length v v1 l a hlB (((hv1.more L1).more L2).more L3) ((g1.lst.more L2).more L3) (by omega) (fun L => by simp only [go_sem, Nat.reduceAdd, Nat.reduceMul, Nat.reduceSub, Nat.reduceBEq, Nat.reduceEqDiff, Nat.reduceLeDiff, Nat.reduceLT, Nat.reduceBneDiff, Int.reduceAdd, Int.cast_ofNat_Int, Int.toNat_natCast, Int.reduceLE, Int.reduceLT, Int.reduceToNat, Int.reduceEq, ↓reduceIte]) (K := K) (Q := Q) (e := e)
    simp only [List.append_assoc, List.cons_append, List.nil_append] at h1 h2 h3 hw hn1 key
    simp only [f6, go_sem, Nat.reduceAdd, Nat.reduceMul, Nat.reduceSub, Nat.reduceBEq, Nat.reduceEqDiff, Nat.reduceLeDiff, Nat.reduceLT, Nat.reduceBneDiff, Int.reduceAdd, Int.cast_ofNat_Int, Int.toNat_natCast, Int.reduceLE, Int.reduceLT, Int.reduceToNat, Int.reduceEq, ↓reduceIte, hlen, gt_iff_lt, d, h1, h2, h3, hw, hn1]
    refine key _ _ _ (by simp only [go_sem, Nat.reduceAdd, Nat.reduceMul, Nat.reduceSub, Nat.reduceBEq, Nat.reduceEqDiff, Nat.reduceLeDiff, Nat.reduceLT, Nat.reduceBneDiff, Int.reduceAdd, Int.cast_ofNat_Int, Int.toNat_natCast, Int.reduceLE, Int.reduceLT, Int.reduceToNat, Int.reduceEq, ↓reduceIte]) (by simp only [go_sem, Nat.reduceAdd, Nat.reduceMul, Nat.reduceSub, Nat.reduceBEq, Nat.reduceEqDiff, Nat.reduceLeDiff, Nat.reduceLT, Nat.reduceBneDiff, Int.reduceAdd, Int.cast_ofNat_Int, Int.toNat_natCast, Int.reduceLE, Int.reduceLT, Int.reduceToNat, Int.reduceEq, ↓reduceIte]) (by simp only [go_sem, Nat.reduceAdd, Nat.reduceMul, Nat.reduceSub, Nat.reduceBEq, Nat.reduceEqDiff, Nat.reduceLeDiff, Nat.reduceLT, Nat.reduceBneDiff, Int.reduceAdd, Int.cast_ofNat_Int, Int.toNat_natCast, Int.reduceLE, Int.reduceLT, Int.reduceToNat, Int.reduceEq, ↓reduceIte]) (by simp only [go_sem, Nat.reduceAdd, Nat.reduceMul, Nat.reduceSub, Nat.reduceBEq, Nat.reduceEqDiff, Nat.reduceLeDiff, Nat.reduceLT, Nat.reduceBneDiff, Int.reduceAdd, Int.cast_ofNat_Int, Int.toNat_natCast, Int.reduceLE, Int.reduceLT, Int.reduceToNat, Int.reduceEq, ↓reduceIte]) (by simp only [go_sem, Nat.reduceAdd, Nat.reduceMul, Nat.reduceSub, Nat.reduceBEq, Nat.reduceEqDiff, Nat.reduceLeDiff, Nat.reduceLT, Nat.reduceBneDiff, Int.reduceAdd, Int.cast_ofNat_Int, Int.toNat_natCast, Int.reduceLE, Int.reduceLT, Int.reduceToNat, Int.reduceEq, ↓reduceIte]) (by simp only [go_sem, Nat.reduceAdd, Nat.reduceMul, Nat.reduceSub, Nat.reduceBEq, Nat.reduceEqDiff, Nat.reduceLeDiff, Nat.reduceLT, Nat.reduceBneDiff, Int.reduceAdd, Int.cast_ofNat_Int, Int.toNat_natCast, Int.reduceLE, Int.reduceLT, Int.reduceToNat, Int.reduceEq, ↓reduceIte]) ?_
    intro e' G x hx i6
    obtain ⟨v4, L4, h4, g4⟩ := ev_Twins (hook := hook) (lim := H.length) x _ hx (by rw [applyW_len]; omega)
    rw [twins_none] at g4
    have hn4 := g4.lst.len'
    have z : ((([] : List Wr).length : Nat) : Int) = 0 := rfl
    rw [z] at hn4
    have z0 : ((0 : Int) == 0) = true := rfl
    simp only [List.append_assoc, List.cons_append, List.nil_append] at h4 hn4
    simp only [go_sem, Nat.reduceAdd, Nat.reduceMul, Nat.reduceSub, Nat.reduceBEq, Nat.reduceEqDiff, Nat.reduceLeDiff, Nat.reduceLT, Nat.reduceBneDiff, Int.reduceAdd, Int.cast_ofNat_Int, Int.toNat_natCast, Int.reduceLE, Int.reduceLT, Int.reduceToNat, Int.reduceEq, ↓reduceIte, i6, h4, hn4, z0, ev_awake14]
  · have d : decide ((20 : Int) < (l.length : Int)) = true := by rw [decide_eq_true_eq]; omega
    simp only [f6, go_sem, Nat.reduceAdd, Nat.reduceMul, Nat.reduceSub, Nat.reduceBEq, Nat.reduceEqDiff, Nat.reduceLeDiff, Nat.reduceLT, Nat.reduceBneDiff, Int.reduceAdd, Int.cast_ofNat_Int, Int.toNat_natCast, Int.reduceLE, Int.reduceLT, Int.reduceToNat, Int.reduceEq, ↓reduceIte, hlen, gt_iff_lt, d, ev_awake14]
end Go.Proofs.Ytmjanbhmpbhagaa.C
