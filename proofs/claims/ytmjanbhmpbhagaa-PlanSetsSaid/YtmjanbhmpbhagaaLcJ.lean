/- THE LAW'S FUNCTION PlanSets is true whatever comes in. Conditions: the slice shows the slots. -/
import Derived.Test.YtmjanbhmpbhagaaLcI
set_option linter.unusedVariables false
set_option linter.unusedSimpArgs false
namespace Go.AM
theorem alike_same {s x : En} (h : s.alike x = true) (hx : (s.x != x.x) = false) : s = x := by
  unfold En.alike at h
  simp only [Bool.and_eq_true, decide_eq_true_eq, beq_iff_eq] at h
  obtain ⟨a, b, c⟩ := s
  obtain ⟨d, e, f⟩ := x
  simp at h hx ⊢
  exact ⟨h.1, h.2, hx⟩
end Go.AM
namespace Go.Proofs.Ytmjanbhmpbhagaa.C
open Go.AM
variable {hook : Nat → Nat → List AV → Heap → Option (AV × Heap)} {lim : Nat} {H : Heap}
theorem sets_loop (B : Heap) (bid : Nat) (v va vb : AV) (l : List Sl) (x : En) (hr : x.right = true) (hlim : lim ≤ B.length) (hv : Lst Sl.c 7 B v l)
    (ha : Lst Sl.c 7 B va (applyW l (oneW ⟨1, x⟩ l))) (hbb : Lst Sl.c 7 B vb (applyW l (oneW ⟨2, x⟩ l))) (hl : l.length < 1000000) (hb : ∀ L, Heap.cells (B ++ L) bid 0 = some x.c) {K : List Frm} {Q : Post} {e : Env}
    (e5 : e 5 = .ptr bid 0 0) (e11 : e 11 = va) (e12 : e 12 = vb) (e13 : e 13 = .int .i64 0) (e14 : e 14 = .int .i64 0) (e53 : e 53 = v) (e54 : e 54 = .int .i64 (l.length : Int)) (e55 : e 55 = .int .i64 0)
    (g : ∀ (e' : Env) (G : Heap), e' 7 = e 7 → e' 8 = e 8 → e' 9 = e 9 → e' 10 = e 10 → e' 13 = .int .i64 ((oneW ⟨1, x⟩ l).length : Int) → e' 14 = .int .i64 ((oneW ⟨2, x⟩ l).length : Int) → ON (PX hook) lim K (.exit 0) e' (B ++ G) Q) :
    GO (PX hook) lim (.loop f5b0) K e B Q := by
  have o1 : ∀ m, oneW ⟨1, x⟩ m = eachW (fun y => y.ok && (y.e.alike x && (y.e.x != x.x))) ⟨true, x⟩ 0 m := fun m => rfl
  have o2 : ∀ m, oneW ⟨2, x⟩ m = eachW (fun y => y.ok && (y.e.alike x && true)) Sl.z 0 m := fun m => rfl
  refine GO_loop _ (fun m e' H' => ∃ (k : Nat) (G : Heap), k + m = l.length ∧ e' 13 = .int .i64 ((oneW ⟨1, x⟩ (l.take k)).length : Int) ∧ e' 14 = .int .i64 ((oneW ⟨2, x⟩ (l.take k)).length : Int) ∧ e' 5 = .ptr bid 0 0 ∧ e' 11 = va ∧ e' 12 = vb ∧ e' 53 = v ∧ e' 54 = .int .i64 (l.length : Int) ∧ e' 55 = .int .i64 (k : Int) ∧ e' 7 = e 7 ∧ e' 8 = e 8 ∧ e' 9 = e 9 ∧ e' 10 = e 10 ∧ H' = B ++ G) ?_ l.length _ _ ?_
  · rintro m e' H' ⟨k, G, hk, i13, i14, i5, i11, i12, i53, i54, i55, i7, i8, i9, i10, rfl⟩
    cases m with
    | zero =>
      have hk' : k = l.length := by omega
      subst hk'
      rw [List.take_length] at i13 i14
      simp only [f5b0, go_sem, Nat.reduceAdd, Nat.reduceMul, Nat.reduceSub, Nat.reduceBEq, Nat.reduceEqDiff, Nat.reduceLeDiff, Nat.reduceLT, Nat.reduceBneDiff, Int.reduceAdd, Int.cast_ofNat_Int, Int.toNat_natCast, Int.reduceLE, Int.reduceLT, Int.reduceToNat, Int.reduceEq, ↓reduceIte, i5, i11, i12, i53, i54, i55, lt_false]
      exact g _ G (by simp only [go_sem, Nat.reduceAdd, Nat.reduceMul, Nat.reduceSub, Nat.reduceBEq, Nat.reduceEqDiff, Nat.reduceLeDiff, Nat.reduceLT, Nat.reduceBneDiff, Int.reduceAdd, Int.cast_ofNat_Int, Int.toNat_natCast, Int.reduceLE, Int.reduceLT, Int.reduceToNat, Int.reduceEq, ↓reduceIte, i7]) (by simp only [go_sem, Nat.reduceAdd, Nat.reduceMul, Nat.reduceSub, Nat.reduceBEq, Nat.reduceEqDiff, Nat.reduceLeDiff, Nat.reduceLT, Nat.reduceBneDiff, Int.reduceAdd, Int.cast_ofNat_Int, Int.toNat_natCast, Int.reduceLE, Int.reduceLT, Int.reduceToNat, Int.reduceEq, ↓reduceIte, i8]) (by simp only [go_sem, Nat.reduceAdd, Nat.reduceMul, Nat.reduceSub, Nat.reduceBEq, Nat.reduceEqDiff, Nat.reduceLeDiff, Nat.reduceLT, Nat.reduceBneDiff, Int.reduceAdd, Int.cast_ofNat_Int, Int.toNat_natCast, Int.reduceLE, Int.reduceLT, Int.reduceToNat, Int.reduceEq, ↓reduceIte, i9]) (by simp only [go_sem, Nat.reduceAdd, Nat.reduceMul, Nat.reduceSub, Nat.reduceBEq, Nat.reduceEqDiff, Nat.reduceLeDiff, Nat.reduceLT, Nat.reduceBneDiff, Int.reduceAdd, Int.cast_ofNat_Int, Int.toNat_natCast, Int.reduceLE, Int.reduceLT, Int.reduceToNat, Int.reduceEq, ↓reduceIte, i10]) (by simp only [go_sem, Nat.reduceAdd, Nat.reduceMul, Nat.reduceSub, Nat.reduceBEq, Nat.reduceEqDiff, Nat.reduceLeDiff, Nat.reduceLT, Nat.reduceBneDiff, Int.reduceAdd, Int.cast_ofNat_Int, Int.toNat_natCast, Int.reduceLE, Int.reduceLT, Int.reduceToNat, Int.reduceEq, ↓reduceIte, i13]) (by simp only [go_sem, Nat.reduceAdd, Nat.reduceMul, Nat.reduceSub, Nat.reduceBEq, Nat.reduceEqDiff, Nat.reduceLeDiff, Nat.reduceLT, Nat.reduceBneDiff, Int.reduceAdd, Int.cast_ofNat_Int, Int.toNat_natCast, Int.reduceLE, Int.reduceLT, Int.reduceToNat, Int.reduceEq, ↓reduceIte, i14])
    | succ m =>
      obtain ⟨s, hx, _⟩ := get_of_lt (show k < l.length by omega)
      obtain ⟨id, ver, q, E⟩ := hv.at (by omega) Sl.len hx
      have d := lt_true (show k < l.length by omega)
      have a1 := wrap_succ (show k < 1000000 by omega)
      have hlk : (l.take k).length = k := by rw [List.length_take]; omega
      have s1 := eachW_snoc (fun y => y.ok && (y.e.alike x && (y.e.x != x.x))) ⟨true, x⟩ 0 (l.take k) s
      have s2 := eachW_snoc (fun y => y.ok && (y.e.alike x && true)) Sl.z 0 (l.take k) s
      have l1 := eachW_le (fun y => y.ok && (y.e.alike x && (y.e.x != x.x))) ⟨true, x⟩ 0 (l.take k)
      have l2 := eachW_le (fun y => y.ok && (y.e.alike x && true)) Sl.z 0 (l.take k)
      have ga := apply_each (p := fun y => y.ok && (y.e.alike x && (y.e.x != x.x))) (to := ⟨true, x⟩) (Or.inr ⟨rfl, hr⟩) l hx
      have gb := apply_each (p := fun y => y.ok && (y.e.alike x && true)) (to := Sl.z) (Or.inl rfl) l hx
      rw [← o1] at s1 l1 ga
      rw [← o2] at s2 l2 gb
      rw [← o1] at s1
      rw [← o2] at s2
      rw [← take_succ_of hx] at s1 s2
      have w1 := wrap_succ (show (oneW ⟨1, x⟩ (l.take k)).length < 1000000 by omega)
      have w2 := wrap_succ (show (oneW ⟨2, x⟩ (l.take k)).length < 1000000 by omega)
      have fin : ∀ (G' : Heap), True := fun _ => trivial
      by_cases hb1 : (s.ok && s.e.alike x) = true
      · have hb1' := hb1
        simp only [Bool.and_eq_true] at hb1
        obtain ⟨b1, b2⟩ := hb1
        have p2 : (s.ok && (s.e.alike x && true)) = true := by rw [b1, b2]; rfl
        rw [if_pos p2] at s2 gb
        obtain ⟨jb, rb, qb, F⟩ := hbb.at (by omega) Sl.len gb
        have t2 : (oneW ⟨2, x⟩ (l.take (k + 1))).length = (oneW ⟨2, x⟩ (l.take k)).length + 1 := by rw [s2]; simp
        have zok : Sl.z.ok = false := rfl
        cases b3 : (s.e.x != x.x)
        · have p1 : (s.ok && (s.e.alike x && (s.e.x != x.x))) = false := by rw [b1, b2, b3]; rfl
          rw [if_neg (by rw [p1]; simp)] at s1 ga
          obtain ⟨ja, ra, qa, A⟩ := ha.at (by omega) Sl.len ga
          have hse := alike_same b2 b3
          have de : decide (s.e = x) = true := by simp [hse]
          have t1 : (oneW ⟨1, x⟩ (l.take (k + 1))).length = (oneW ⟨1, x⟩ (l.take k)).length := by rw [s1]; simp
          simp only [f5b0, go_sem, Nat.reduceAdd, Nat.reduceMul, Nat.reduceSub, Nat.reduceBEq, Nat.reduceEqDiff, Nat.reduceLeDiff, Nat.reduceLT, Nat.reduceBneDiff, Int.reduceAdd, Int.cast_ofNat_Int, Int.toNat_natCast, Int.reduceLE, Int.reduceLT, Int.reduceToNat, Int.reduceEq, ↓reduceIte, i5, i11, i12, i13, i14, i53, i54, i55, d, a1, hlim, E.adr, E.adr', E.cel, E.cel', E.all, E.all', E.part, E.part', E.part0, E.part0', E.one, E.one', E.one0, E.one0', F.adr, F.adr', F.cel, F.cel', F.all, F.all', F.part, F.part', F.part0, F.part0', F.one, F.one', F.one0, F.one0', A.adr, A.adr', A.cel, A.cel', A.all, A.all', A.part, A.part', A.part0, A.part0', A.one, A.one', A.one0, A.one0', b1, b2, b3, ev_EAlike, hb, w2, de, zok, Nat.add_assoc]
          exact ⟨m, by omega, k + 1, G ++ [.rw 0 7 s.c], by omega, by rw [t1], by rw [t2], rfl, i7, i8, i9, i10, rfl⟩
        · have p1 : (s.ok && (s.e.alike x && (s.e.x != x.x))) = true := by rw [b1, b2, b3]; rfl
          rw [if_pos p1] at s1 ga
          obtain ⟨ja, ra, qa, A⟩ := ha.at (by omega) Sl.len ga
          have de : decide (x = x) = true := by simp
          have t1 : (oneW ⟨1, x⟩ (l.take (k + 1))).length = (oneW ⟨1, x⟩ (l.take k)).length + 1 := by rw [s1]; simp
          simp only [f5b0, go_sem, Nat.reduceAdd, Nat.reduceMul, Nat.reduceSub, Nat.reduceBEq, Nat.reduceEqDiff, Nat.reduceLeDiff, Nat.reduceLT, Nat.reduceBneDiff, Int.reduceAdd, Int.cast_ofNat_Int, Int.toNat_natCast, Int.reduceLE, Int.reduceLT, Int.reduceToNat, Int.reduceEq, ↓reduceIte, i5, i11, i12, i13, i14, i53, i54, i55, d, a1, hlim, E.adr, E.adr', E.cel, E.cel', E.all, E.all', E.part, E.part', E.part0, E.part0', E.one, E.one', E.one0, E.one0', F.adr, F.adr', F.cel, F.cel', F.all, F.all', F.part, F.part', F.part0, F.part0', F.one, F.one', F.one0, F.one0', A.adr, A.adr', A.cel, A.cel', A.all, A.all', A.part, A.part', A.part0, A.part0', A.one, A.one', A.one0, A.one0', b1, b2, b3, ev_EAlike, hb, w1, w2, de, zok, Nat.add_assoc]
          exact ⟨m, by omega, k + 1, G ++ [.rw 0 7 s.c], by omega, by rw [t1], by rw [t2], rfl, i7, i8, i9, i10, rfl⟩
      · have p1 : (s.ok && (s.e.alike x && (s.e.x != x.x))) = false := by
          cases c1 : s.ok
          · rfl
          · cases c2 : s.e.alike x
            · rfl
            · rw [c1, c2] at hb1; exact absurd rfl hb1
        have p2 : (s.ok && (s.e.alike x && true)) = false := by
          cases c1 : s.ok
          · rfl
          · cases c2 : s.e.alike x
            · rfl
            · rw [c1, c2] at hb1; exact absurd rfl hb1
        rw [if_neg (by rw [p1]; simp), List.append_nil] at s1
        rw [if_neg (by rw [p2]; simp), List.append_nil] at s2
        rw [if_neg (by rw [p1]; simp)] at ga
        rw [if_neg (by rw [p2]; simp)] at gb
        obtain ⟨ja, ra, qa, A⟩ := ha.at (by omega) Sl.len ga
        obtain ⟨jb, rb, qb, F⟩ := hbb.at (by omega) Sl.len gb
        have de : decide (s = s) = true := by simp
        cases b1 : s.ok
        · simp only [f5b0, go_sem, Nat.reduceAdd, Nat.reduceMul, Nat.reduceSub, Nat.reduceBEq, Nat.reduceEqDiff, Nat.reduceLeDiff, Nat.reduceLT, Nat.reduceBneDiff, Int.reduceAdd, Int.cast_ofNat_Int, Int.toNat_natCast, Int.reduceLE, Int.reduceLT, Int.reduceToNat, Int.reduceEq, ↓reduceIte, i5, i11, i12, i13, i14, i53, i54, i55, d, a1, hlim, E.adr, E.adr', E.cel, E.cel', E.all, E.all', E.part, E.part', E.part0, E.part0', E.one, E.one', E.one0, E.one0', F.adr, F.adr', F.cel, F.cel', F.all, F.all', F.part, F.part', F.part0, F.part0', F.one, F.one', F.one0, F.one0', A.adr, A.adr', A.cel, A.cel', A.all, A.all', A.part, A.part', A.part0, A.part0', A.one, A.one', A.one0, A.one0', b1, hb, de]
          exact ⟨m, by omega, k + 1, G ++ [.rw 0 7 s.c], by omega, by rw [s1], by rw [s2], rfl, i7, i8, i9, i10, rfl⟩
        · have b2 : s.e.alike x = false := by
            cases c2 : s.e.alike x
            · rfl
            · rw [b1, c2] at hb1; exact absurd rfl hb1
          simp only [f5b0, go_sem, Nat.reduceAdd, Nat.reduceMul, Nat.reduceSub, Nat.reduceBEq, Nat.reduceEqDiff, Nat.reduceLeDiff, Nat.reduceLT, Nat.reduceBneDiff, Int.reduceAdd, Int.cast_ofNat_Int, Int.toNat_natCast, Int.reduceLE, Int.reduceLT, Int.reduceToNat, Int.reduceEq, ↓reduceIte, i5, i11, i12, i13, i14, i53, i54, i55, d, a1, hlim, E.adr, E.adr', E.cel, E.cel', E.all, E.all', E.part, E.part', E.part0, E.part0', E.one, E.one', E.one0, E.one0', F.adr, F.adr', F.cel, F.cel', F.all, F.all', F.part, F.part', F.part0, F.part0', F.one, F.one', F.one0, F.one0', A.adr, A.adr', A.cel, A.cel', A.all, A.all', A.part, A.part', A.part0, A.part0', A.one, A.one', A.one0, A.one0', b1, b2, ev_EAlike, hb, de]
          exact ⟨m, by omega, k + 1, G ++ [.rw 0 7 s.c], by omega, by rw [s1], by rw [s2], rfl, i7, i8, i9, i10, rfl⟩
  · exact ⟨0, [], by omega, by rw [e13]; rfl, by rw [e14]; rfl, e5, e11, e12, e53, e54, e55, rfl, rfl, rfl, rfl, by simp⟩
theorem planSets_true (o : Int) (v : AV) (l : List Sl) (x : En) (hv : Lst Sl.c 7 H v l) : ev (PX hook) lim 5 [.int .i64 o, v, .agg x.c] H = some (.bool true, H) := by
  refine ev_own _ (PF t5) rfl (by decide) ?_
  have hlen := hv.len
  by_cases hn : l.length ≤ 20
  · have d : decide ((20 : Int) < (l.length : Int)) = false := by rw [decide_eq_false_iff_not]; omega
    cases ho : ((o == 0) || (o == 1))
    · simp only [f5, go_sem, Nat.reduceAdd, Nat.reduceMul, Nat.reduceSub, Nat.reduceBEq, Nat.reduceEqDiff, Nat.reduceLeDiff, Nat.reduceLT, Nat.reduceBneDiff, Int.reduceAdd, Int.cast_ofNat_Int, Int.toNat_natCast, Int.reduceLE, Int.reduceLT, Int.reduceToNat, Int.reduceEq, ↓reduceIte, hlen, gt_iff_lt, d, ev_Order, ho, ev_awake14]
    · cases hr : x.right
      · simp only [f5, go_sem, Nat.reduceAdd, Nat.reduceMul, Nat.reduceSub, Nat.reduceBEq, Nat.reduceEqDiff, Nat.reduceLeDiff, Nat.reduceLT, Nat.reduceBneDiff, Int.reduceAdd, Int.cast_ofNat_Int, Int.toNat_natCast, Int.reduceLE, Int.reduceLT, Int.reduceToNat, Int.reduceEq, ↓reduceIte, hlen, gt_iff_lt, d, ev_Order, ho, ev_ERight, hr, ev_awake14]
      · have hv1 := hv.more [Blk.rw 0 6 x.c]
        obtain ⟨v1, L1, h1, g1⟩ := ev_planOne12 (hook := hook) (lim := H.length) o v l ⟨1, x⟩ hv1 (by omega) ho hr (Or.inl rfl)
        have hv2 := hv1.more L1
        obtain ⟨v2, L2, h2, g2⟩ := ev_planOne12 (hook := hook) (lim := H.length) o v l ⟨2, x⟩ hv2 (by omega) ho hr (Or.inr rfl)
        have hv3 := hv2.more L2
        have ll : ∀ k, (oneW ⟨k, x⟩ l).length < 1000000 := by
          intro k
          unfold oneW
          split
          · exact Nat.lt_of_le_of_lt (eachW_le _ _ _ _) (by omega)
          · exact Nat.lt_of_le_of_lt (eachW_le _ _ _ _) (by omega)
        obtain ⟨v3, L3, h3, g3⟩ := ev_Apply (hook := hook) (lim := H.length) v v1 l _ hv3 (g1.lst.more L2) (by omega) (ll 1)
        obtain ⟨v4, L4, h4, g4⟩ := ev_Apply (hook := hook) (lim := H.length) v v2 l _ (hv3.more L3) (g2.lst.more L3) (by omega) (ll 2)
        have hlB : H.length ≤ (((((H ++ [Blk.rw 0 6 x.c]) ++ L1) ++ L2) ++ L3) ++ L4).length := by simp
        have n1 := fun J => (((((g1.lst.more L2).more L3).more L4).more J)).len'
        have n2 := fun J => ((((g2.lst.more L3).more L4).more J)).len'
        have key := fun (K : List Frm) (Q : Post) (e : Env) => sets_loop (hook := hook) (lim := H.length) (((((H ++ [Blk.rw 0 6 x.c]) ++ L1) ++ L2) ++ L3) ++ L4) H.length v v3 v4 l x hr hlB ((hv3.more L3).more L4) ((g3.lst Sl.len).more L4) (g4.lst Sl.len) (by omega) (fun L => by simp only [go_sem, Nat.reduceAdd, Nat.reduceMul, Nat.reduceSub, Nat.reduceBEq, Nat.reduceEqDiff, Nat.reduceLeDiff, Nat.reduceLT, Nat.reduceBneDiff, Int.reduceAdd, Int.cast_ofNat_Int, Int.toNat_natCast, Int.reduceLE, Int.reduceLT, Int.reduceToNat, Int.reduceEq, ↓reduceIte]) (K := K) (Q := Q) (e := e)
        simp only [List.append_assoc, List.cons_append, List.nil_append] at h1 h2 h3 h4 n1 n2 key
        simp only [f5, go_sem, Nat.reduceAdd, Nat.reduceMul, Nat.reduceSub, Nat.reduceBEq, Nat.reduceEqDiff, Nat.reduceLeDiff, Nat.reduceLT, Nat.reduceBneDiff, Int.reduceAdd, Int.cast_ofNat_Int, Int.toNat_natCast, Int.reduceLE, Int.reduceLT, Int.reduceToNat, Int.reduceEq, ↓reduceIte, hlen, gt_iff_lt, d, ev_Order, ho, ev_ERight, hr, h1, h2, h3, h4]
        refine key _ _ _ (by simp only [go_sem, Nat.reduceAdd, Nat.reduceMul, Nat.reduceSub, Nat.reduceBEq, Nat.reduceEqDiff, Nat.reduceLeDiff, Nat.reduceLT, Nat.reduceBneDiff, Int.reduceAdd, Int.cast_ofNat_Int, Int.toNat_natCast, Int.reduceLE, Int.reduceLT, Int.reduceToNat, Int.reduceEq, ↓reduceIte]) (by simp only [go_sem, Nat.reduceAdd, Nat.reduceMul, Nat.reduceSub, Nat.reduceBEq, Nat.reduceEqDiff, Nat.reduceLeDiff, Nat.reduceLT, Nat.reduceBneDiff, Int.reduceAdd, Int.cast_ofNat_Int, Int.toNat_natCast, Int.reduceLE, Int.reduceLT, Int.reduceToNat, Int.reduceEq, ↓reduceIte]) (by simp only [go_sem, Nat.reduceAdd, Nat.reduceMul, Nat.reduceSub, Nat.reduceBEq, Nat.reduceEqDiff, Nat.reduceLeDiff, Nat.reduceLT, Nat.reduceBneDiff, Int.reduceAdd, Int.cast_ofNat_Int, Int.toNat_natCast, Int.reduceLE, Int.reduceLT, Int.reduceToNat, Int.reduceEq, ↓reduceIte]) (by simp only [go_sem, Nat.reduceAdd, Nat.reduceMul, Nat.reduceSub, Nat.reduceBEq, Nat.reduceEqDiff, Nat.reduceLeDiff, Nat.reduceLT, Nat.reduceBneDiff, Int.reduceAdd, Int.cast_ofNat_Int, Int.toNat_natCast, Int.reduceLE, Int.reduceLT, Int.reduceToNat, Int.reduceEq, ↓reduceIte]) (by simp only [go_sem, Nat.reduceAdd, Nat.reduceMul, Nat.reduceSub, Nat.reduceBEq, Nat.reduceEqDiff, Nat.reduceLeDiff, Nat.reduceLT, Nat.reduceBneDiff, Int.reduceAdd, Int.cast_ofNat_Int, Int.toNat_natCast, Int.reduceLE, Int.reduceLT, Int.reduceToNat, Int.reduceEq, ↓reduceIte]) (by simp only [go_sem, Nat.reduceAdd, Nat.reduceMul, Nat.reduceSub, Nat.reduceBEq, Nat.reduceEqDiff, Nat.reduceLeDiff, Nat.reduceLT, Nat.reduceBneDiff, Int.reduceAdd, Int.cast_ofNat_Int, Int.toNat_natCast, Int.reduceLE, Int.reduceLT, Int.reduceToNat, Int.reduceEq, ↓reduceIte]) (by simp only [go_sem, Nat.reduceAdd, Nat.reduceMul, Nat.reduceSub, Nat.reduceBEq, Nat.reduceEqDiff, Nat.reduceLeDiff, Nat.reduceLT, Nat.reduceBneDiff, Int.reduceAdd, Int.cast_ofNat_Int, Int.toNat_natCast, Int.reduceLE, Int.reduceLT, Int.reduceToNat, Int.reduceEq, ↓reduceIte]) (by simp only [go_sem, Nat.reduceAdd, Nat.reduceMul, Nat.reduceSub, Nat.reduceBEq, Nat.reduceEqDiff, Nat.reduceLeDiff, Nat.reduceLT, Nat.reduceBneDiff, Int.reduceAdd, Int.cast_ofNat_Int, Int.toNat_natCast, Int.reduceLE, Int.reduceLT, Int.reduceToNat, Int.reduceEq, ↓reduceIte]) ?_
        intro e' G j7 j8 j9 j10 j13 j14
        simp only [go_sem, Nat.reduceAdd, Nat.reduceMul, Nat.reduceSub, Nat.reduceBEq, Nat.reduceEqDiff, Nat.reduceLeDiff, Nat.reduceLT, Nat.reduceBneDiff, Int.reduceAdd, Int.cast_ofNat_Int, Int.toNat_natCast, Int.reduceLE, Int.reduceLT, Int.reduceToNat, Int.reduceEq, ↓reduceIte] at j7 j8 j9 j10
        have z0 : ((0 : Int) == 0) = true := rfl
        have z1 : (((oneW ⟨1, x⟩ l).length : Int) == ((oneW ⟨1, x⟩ l).length : Int)) = true := by simp
        have z2 : (((oneW ⟨2, x⟩ l).length : Int) == ((oneW ⟨2, x⟩ l).length : Int)) = true := by simp
        simp only [go_sem, Nat.reduceAdd, Nat.reduceMul, Nat.reduceSub, Nat.reduceBEq, Nat.reduceEqDiff, Nat.reduceLeDiff, Nat.reduceLT, Nat.reduceBneDiff, Int.reduceAdd, Int.cast_ofNat_Int, Int.toNat_natCast, Int.reduceLE, Int.reduceLT, Int.reduceToNat, Int.reduceEq, ↓reduceIte, j7, j8, j9, j10, j13, j14, n1, n2, z0, z1, z2, ev_awake14]
  · have d : decide ((20 : Int) < (l.length : Int)) = true := by rw [decide_eq_true_eq]; omega
    simp only [f5, go_sem, Nat.reduceAdd, Nat.reduceMul, Nat.reduceSub, Nat.reduceBEq, Nat.reduceEqDiff, Nat.reduceLeDiff, Nat.reduceLT, Nat.reduceBneDiff, Int.reduceAdd, Int.cast_ofNat_Int, Int.toNat_natCast, Int.reduceLE, Int.reduceLT, Int.reduceToNat, Int.reduceEq, ↓reduceIte, hlen, gt_iff_lt, d, ev_awake14]
end Go.Proofs.Ytmjanbhmpbhagaa.C
