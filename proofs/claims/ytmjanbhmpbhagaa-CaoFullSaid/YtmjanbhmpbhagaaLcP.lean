/- THE ORDER OF CHAINS, the document's ways down and up. Conditions: the slices show what is told. -/
import Derived.Test.YtmjanbhmpbhagaaLcO
set_option linter.unusedVariables false
set_option linter.unusedSimpArgs false
namespace Go.AM
theorem ow_empty {α : Type} {c : α → List AV} {sz : Nat} (B G : Heap) : Ow c sz B (G ++ [.rw 0 sz []]) (.sl (B.length + G.length) 0 0 0 true) [] := by
  refine Or.inr ⟨B.length + G.length, 0, true, by omega, rfl, ?_⟩
  rw [← List.append_assoc, List.getElem?_append_right (by simp)]
  simp [cat]
/-- What is behind a place that has been taken, on the way down. -/
def pendB (l : List Sl) (f p a : Nat) (way : List Nat) : List Nat := match (frees l (p + 1) a).head? with
  | some k => way ++ [k]
  | none => wayB l f a way
def pendA (l : List Sl) (f p a : Nat) (way : List Nat) : List Nat := match (frees l a p).getLast? with
  | some k => way ++ [k]
  | none => wayA l f a way
end Go.AM
namespace Go.Proofs.Ytmjanbhmpbhagaa.C
open Go.AM
variable {hook : Nat → Nat → List AV → Heap → Option (AV × Heap)} {lim : Nat} {H : Heap}
theorem below_in (v : AV) (l : List Sl) (i : Nat) (B : Heap) (s : Sl) (hs : l[i]? = some s) (hv : Lst Sl.c 7 B v l) (hl : l.length < 1000000) {K : List Frm} {Q : Post} {e : Env}
    (e0 : e 0 = v) (e8 : e 8 = .int .i64 (l.length : Int)) (e9 : e 9 = .int .i64 (i : Int)) (e10 : e 10 = .int .i64 ((l.length : Int) - 1))
    (g : ∀ e' : Env, e' 0 = v → e' 5 = e 5 → e' 7 = e 7 → e' 9 = .int .i64 (i : Int) → e' 8 = .int .i64 (lowN l (i + 1) s.e : Int) → ON (PX hook) lim K (.exit 2) e' B Q) :
    GO (PX hook) lim (.loop f69b0) K e B Q := by
  have hi := (List.getElem?_eq_some_iff.1 hs).1
  obtain ⟨jd, wer, r, F⟩ := hv.at (by omega) Sl.len hs
  refine GO_loop _ (fun n e' H'' => ∃ k : Nat, k = i + 1 + n ∧ k ≤ l.length ∧ e' 8 = .int .i64 (firstN (fun t => t.ok && s.e.above t.e) l (l.length - k) k : Int) ∧ e' 0 = v ∧ e' 5 = e 5 ∧ e' 7 = e 7 ∧ e' 9 = .int .i64 (i : Int) ∧ e' 10 = .int .i64 ((k : Int) - 1) ∧ H'' = B) ?_ (l.length - (i + 1)) _ _ ?_
  · rintro n e' H'' ⟨k, rfl, hk, j8, j0, j5, j7, j9, j10, rfl⟩
    cases n with
    | zero =>
      have d : decide ((i : Int) < ((i + 1 + 0 : Nat) : Int) - 1) = false := by rw [decide_eq_false_iff_not]; omega
      simp only [f69b0, go_sem, Nat.reduceAdd, Nat.reduceMul, Nat.reduceSub, Nat.reduceBEq, Nat.reduceEqDiff, Nat.reduceLeDiff, Nat.reduceLT, Nat.reduceBneDiff, Int.reduceAdd, Int.cast_ofNat_Int, Int.toNat_natCast, Int.reduceLE, Int.reduceLT, Int.reduceToNat, Int.reduceEq, ↓reduceIte, j0, j8, j9, j10, gt_iff_lt]
      simp only [Nat.add_zero] at d j8
      simp only [go_sem, Nat.reduceAdd, Nat.reduceMul, Nat.reduceSub, Nat.reduceBEq, Nat.reduceEqDiff, Nat.reduceLeDiff, Nat.reduceLT, Nat.reduceBneDiff, Int.reduceAdd, Int.cast_ofNat_Int, Int.toNat_natCast, Int.reduceLE, Int.reduceLT, Int.reduceToNat, Int.reduceEq, ↓reduceIte, d]
      exact g _ (by simp only [go_sem, Nat.reduceAdd, Nat.reduceMul, Nat.reduceSub, Nat.reduceBEq, Nat.reduceEqDiff, Nat.reduceLeDiff, Nat.reduceLT, Nat.reduceBneDiff, Int.reduceAdd, Int.cast_ofNat_Int, Int.toNat_natCast, Int.reduceLE, Int.reduceLT, Int.reduceToNat, Int.reduceEq, ↓reduceIte, j0]) (by simp only [go_sem, Nat.reduceAdd, Nat.reduceMul, Nat.reduceSub, Nat.reduceBEq, Nat.reduceEqDiff, Nat.reduceLeDiff, Nat.reduceLT, Nat.reduceBneDiff, Int.reduceAdd, Int.cast_ofNat_Int, Int.toNat_natCast, Int.reduceLE, Int.reduceLT, Int.reduceToNat, Int.reduceEq, ↓reduceIte, j5]) (by simp only [go_sem, Nat.reduceAdd, Nat.reduceMul, Nat.reduceSub, Nat.reduceBEq, Nat.reduceEqDiff, Nat.reduceLeDiff, Nat.reduceLT, Nat.reduceBneDiff, Int.reduceAdd, Int.cast_ofNat_Int, Int.toNat_natCast, Int.reduceLE, Int.reduceLT, Int.reduceToNat, Int.reduceEq, ↓reduceIte, j7]) (by simp only [go_sem, Nat.reduceAdd, Nat.reduceMul, Nat.reduceSub, Nat.reduceBEq, Nat.reduceEqDiff, Nat.reduceLeDiff, Nat.reduceLT, Nat.reduceBneDiff, Int.reduceAdd, Int.cast_ofNat_Int, Int.toNat_natCast, Int.reduceLE, Int.reduceLT, Int.reduceToNat, Int.reduceEq, ↓reduceIte, j9]) (by simp only [go_sem, Nat.reduceAdd, Nat.reduceMul, Nat.reduceSub, Nat.reduceBEq, Nat.reduceEqDiff, Nat.reduceLeDiff, Nat.reduceLT, Nat.reduceBneDiff, Int.reduceAdd, Int.cast_ofNat_Int, Int.toNat_natCast, Int.reduceLE, Int.reduceLT, Int.reduceToNat, Int.reduceEq, ↓reduceIte, j8, lowN])
    | succ n =>
      obtain ⟨t, ht, _⟩ := get_of_lt (show i + 1 + n < l.length by omega)
      obtain ⟨id, ver, q, E⟩ := hv.at (by omega) Sl.len ht
      have e1 : ((i + 1 + (n + 1) : Nat) : Int) - 1 = ((i + 1 + n : Nat) : Int) := by omega
      rw [e1] at j10
      have d : decide ((i : Int) < ((i + 1 + n : Nat) : Int)) = true := by rw [decide_eq_true_eq]; omega
      have a1 : IntKind.wrap .i64 (((i + 1 + n : Nat) : Int) - 1) = ((i + 1 + n : Nat) : Int) - 1 := by rw [wrap_i64] <;> omega
      have hf : firstN (fun t => t.ok && s.e.above t.e) l (l.length - (i + 1 + n)) (i + 1 + n) = if (t.ok && s.e.above t.e) = true then i + 1 + n else firstN (fun t => t.ok && s.e.above t.e) l (l.length - (i + 1 + (n + 1))) (i + 1 + (n + 1)) := by
        rw [show l.length - (i + 1 + n) = (l.length - (i + 1 + (n + 1))) + 1 by omega, firstN, ht]; rfl
      generalize i + 1 + n = k at *
      cases b1 : t.ok
      · rw [b1, Bool.false_and, if_neg (by simp)] at hf
        simp only [f69b0, go_sem, Nat.reduceAdd, Nat.reduceMul, Nat.reduceSub, Nat.reduceBEq, Nat.reduceEqDiff, Nat.reduceLeDiff, Nat.reduceLT, Nat.reduceBneDiff, Int.reduceAdd, Int.cast_ofNat_Int, Int.toNat_natCast, Int.reduceLE, Int.reduceLT, Int.reduceToNat, Int.reduceEq, ↓reduceIte, j0, j8, j9, j10, gt_iff_lt, d, a1, E.adr, E.adr', E.cel, E.cel', E.all, E.all', E.part, E.part', E.part0, E.part0', E.one, E.one', E.one0, E.one0', F.adr, F.adr', F.cel, F.cel', F.all, F.all', F.part, F.part', F.part0, F.part0', F.one, F.one', F.one0, F.one0', b1]
        exact ⟨n, by omega, k, by omega, by omega, by rw [hf], j5, j7, rfl⟩
      · cases b2 : s.e.above t.e
        · rw [b1, b2, if_neg (by simp)] at hf
          simp only [f69b0, go_sem, Nat.reduceAdd, Nat.reduceMul, Nat.reduceSub, Nat.reduceBEq, Nat.reduceEqDiff, Nat.reduceLeDiff, Nat.reduceLT, Nat.reduceBneDiff, Int.reduceAdd, Int.cast_ofNat_Int, Int.toNat_natCast, Int.reduceLE, Int.reduceLT, Int.reduceToNat, Int.reduceEq, ↓reduceIte, j0, j8, j9, j10, gt_iff_lt, d, a1, E.adr, E.adr', E.cel, E.cel', E.all, E.all', E.part, E.part', E.part0, E.part0', E.one, E.one', E.one0, E.one0', F.adr, F.adr', F.cel, F.cel', F.all, F.all', F.part, F.part', F.part0, F.part0', F.one, F.one', F.one0, F.one0', b1, ev_rAbove, b2]
          exact ⟨n, by omega, k, by omega, by omega, by rw [hf], j5, j7, rfl⟩
        · rw [b1, b2, if_pos (by simp)] at hf
          simp only [f69b0, go_sem, Nat.reduceAdd, Nat.reduceMul, Nat.reduceSub, Nat.reduceBEq, Nat.reduceEqDiff, Nat.reduceLeDiff, Nat.reduceLT, Nat.reduceBneDiff, Int.reduceAdd, Int.cast_ofNat_Int, Int.toNat_natCast, Int.reduceLE, Int.reduceLT, Int.reduceToNat, Int.reduceEq, ↓reduceIte, j0, j8, j9, j10, gt_iff_lt, d, a1, E.adr, E.adr', E.cel, E.cel', E.all, E.all', E.part, E.part', E.part0, E.part0', E.one, E.one', E.one0, E.one0', F.adr, F.adr', F.cel, F.cel', F.all, F.all', F.part, F.part', F.part0, F.part0', F.one, F.one', F.one0, F.one0', b1, ev_rAbove, b2]
          exact ⟨n, by omega, k, by omega, by omega, by rw [hf], j5, j7, rfl⟩
  · exact ⟨l.length, by omega, Nat.le_refl _, by rw [e8, Nat.sub_self]; rfl, e0, rfl, rfl, e9, e10, rfl⟩
theorem ev_rBelow (v : AV) (l : List Sl) (to : Nat) (x : En) (hv : Lst Sl.c 7 H v l) (hl : l.length < 500000) (hto : to ≤ l.length) (hok : ∀ s, l[to]? = some s → s.ok = true) :
    ∃ v' L, ev (PX hook) lim 69 [v, .int .i64 (to : Int), .agg x.c] H = some (v', H ++ L) ∧ Gr Wr.c 8 H L v' (writesW l x (wayB l (l.length + 1) to [])) := by
  suffices hs : EV (PX hook) lim 69 [v, .int .i64 (to : Int), .agg x.c] H fun v' H' => ∃ L, H' = H ++ L ∧ Gr Wr.c 8 H L v' (writesW l x (wayB l (l.length + 1) to [])) by
    rw [EV_iff] at hs; obtain ⟨v', H', h1, L, rfl, h2⟩ := hs; exact ⟨v', L, h1, h2⟩
  rw [EV_own _ (PF t69) rfl (by decide)]
  have hlen := hv.len
  generalize hR : wayB l (l.length + 1) to [] = R
  simp only [f69, go_sem, Nat.reduceAdd, Nat.reduceMul, Nat.reduceSub, Nat.reduceBEq, Nat.reduceEqDiff, Nat.reduceLeDiff, Nat.reduceLT, Nat.reduceBneDiff, Int.reduceAdd, Int.cast_ofNat_Int, Int.toNat_natCast, Int.reduceLE, Int.reduceLT, Int.reduceToNat, Int.reduceEq, ↓reduceIte]
  refine GO_loop _ (fun m e H' => ∃ (i at' f : Nat) (way : List Nat) (G : Heap), i + m = l.length ∧ at' ≤ l.length ∧ l.length ≤ at' + f ∧ way.length + f ≤ l.length + 1 ∧ (∀ a ∈ way, a < l.length) ∧ (∀ s, l[at']? = some s → s.ok = true) ∧
    Ow nC 1 (H ++ [Blk.rw 0 6 x.c]) G (e 7) way ∧ ((i = at' ∧ R = wayB l f at' way) ∨ (i < at' ∧ ∃ p, p < i ∧ frees l (p + 1) i = [] ∧ R = pendB l f p at' way)) ∧
    e 0 = v ∧ e 5 = .ptr H.length 0 0 ∧ e 8 = .int .i64 (at' : Int) ∧ e 9 = .int .i64 (i : Int) ∧ H' = H ++ (Blk.rw 0 6 x.c :: G)) ?_ (l.length - to) _ _ ?_
  · rintro m e H' ⟨i, at', f, way, G, hi, hat, hfl, hwf, hin, hok, hg, hcase, i0, i5, i8, i9, rfl⟩
    have nilf : finish .slices H.length .nils (H ++ (Blk.rw 0 6 x.c :: G)) = some (.nils, H) := finish_nils _ _
    cases m with
    | zero =>
      have hi' : i = l.length := by omega
      have hRn : R = [] := by
        rcases hcase with ⟨h1, h2⟩ | ⟨h1, _⟩
        · rw [h2]
          cases f with
          | zero => rfl
          | succ f => rw [wayB, List.getElem?_eq_none (by omega)]
        · omega
      rw [hi'] at i9
      simp only [f69b1, go_sem, Nat.reduceAdd, Nat.reduceMul, Nat.reduceSub, Nat.reduceBEq, Nat.reduceEqDiff, Nat.reduceLeDiff, Nat.reduceLT, Nat.reduceBneDiff, Int.reduceAdd, Int.cast_ofNat_Int, Int.toNat_natCast, Int.reduceLE, Int.reduceLT, Int.reduceToNat, Int.reduceEq, ↓reduceIte, i0, i5, i8, i9, hlen, lt_false, nilf]
      exact ⟨[], by simp, by rw [hRn]; exact Gr.nil⟩
    | succ m =>
      obtain ⟨s, hs, _⟩ := get_of_lt (show i < l.length by omega)
      obtain ⟨id, ver, q, E⟩ := hv.at (by omega) Sl.len hs
      have d := lt_true (show i < l.length by omega)
      have a1 := wrap_succ (show i < 1000000 by omega)
      have a2 : IntKind.wrap .i64 ((l.length : Int) - 1) = (l.length : Int) - 1 := by rw [wrap_i64] <;> omega
      rcases hcase with ⟨rfl, hR1⟩ | ⟨hlt, p, hpi, hfr, hR1⟩
      · -- the way goes on here
        have heq : ((i : Int) == (i : Int)) = true := by simp
        have hsok := hok s hs
        obtain ⟨f, rfl⟩ : ∃ g, f = g + 1 := ⟨f - 1, by omega⟩
        have hR2 : R = pendB l f i (lowN l (i + 1) s.e) (way ++ [i]) := by
          rw [hR1, wayB, hs]
          unfold pendB
          simp only
          cases (frees l (i + 1) (lowN l (i + 1) s.e)).head? <;> simp
        obtain ⟨v', G', ha, hg'⟩ := hg.push0 (bytes := 8) (lim := H.length) nC_len i (by simp) (by omega)
        simp only [nC, go_sem, Nat.reduceAdd, Nat.reduceMul, Nat.reduceSub, Nat.reduceBEq, Nat.reduceEqDiff, Nat.reduceLeDiff, Nat.reduceLT, Nat.reduceBneDiff, Int.reduceAdd, Int.cast_ofNat_Int, Int.toNat_natCast, Int.reduceLE, Int.reduceLT, Int.reduceToNat, Int.reduceEq, ↓reduceIte, show H.length + 1 + G.length = H.length + (G.length + 1) by omega] at ha
        have hvB : Lst Sl.c 7 (H ++ (Blk.rw 0 6 x.c :: G')) v l := hv.more _
        simp only [f69b1, go_sem, Nat.reduceAdd, Nat.reduceMul, Nat.reduceSub, Nat.reduceBEq, Nat.reduceEqDiff, Nat.reduceLeDiff, Nat.reduceLT, Nat.reduceBneDiff, Int.reduceAdd, Int.cast_ofNat_Int, Int.toNat_natCast, Int.reduceLE, Int.reduceLT, Int.reduceToNat, Int.reduceEq, ↓reduceIte, i0, i5, i8, i9, hlen, d, heq, ha, a2]
        refine below_in (hook := hook) (lim := H.length) v l i _ s hs hvB (by omega) (by simp only [go_sem, Nat.reduceAdd, Nat.reduceMul, Nat.reduceSub, Nat.reduceBEq, Nat.reduceEqDiff, Nat.reduceLeDiff, Nat.reduceLT, Nat.reduceBneDiff, Int.reduceAdd, Int.cast_ofNat_Int, Int.toNat_natCast, Int.reduceLE, Int.reduceLT, Int.reduceToNat, Int.reduceEq, ↓reduceIte, i0]) (by simp only [go_sem, Nat.reduceAdd, Nat.reduceMul, Nat.reduceSub, Nat.reduceBEq, Nat.reduceEqDiff, Nat.reduceLeDiff, Nat.reduceLT, Nat.reduceBneDiff, Int.reduceAdd, Int.cast_ofNat_Int, Int.toNat_natCast, Int.reduceLE, Int.reduceLT, Int.reduceToNat, Int.reduceEq, ↓reduceIte]) (by simp only [go_sem, Nat.reduceAdd, Nat.reduceMul, Nat.reduceSub, Nat.reduceBEq, Nat.reduceEqDiff, Nat.reduceLeDiff, Nat.reduceLT, Nat.reduceBneDiff, Int.reduceAdd, Int.cast_ofNat_Int, Int.toNat_natCast, Int.reduceLE, Int.reduceLT, Int.reduceToNat, Int.reduceEq, ↓reduceIte, i9]) (by simp only [go_sem, Nat.reduceAdd, Nat.reduceMul, Nat.reduceSub, Nat.reduceBEq, Nat.reduceEqDiff, Nat.reduceLeDiff, Nat.reduceLT, Nat.reduceBneDiff, Int.reduceAdd, Int.cast_ofNat_Int, Int.toNat_natCast, Int.reduceLE, Int.reduceLT, Int.reduceToNat, Int.reduceEq, ↓reduceIte]) ?_
        intro e' j0 j5 j7 j9 j8
        simp only [go_sem, Nat.reduceAdd, Nat.reduceMul, Nat.reduceSub, Nat.reduceBEq, Nat.reduceEqDiff, Nat.reduceLeDiff, Nat.reduceLT, Nat.reduceBneDiff, Int.reduceAdd, Int.cast_ofNat_Int, Int.toNat_natCast, Int.reduceLE, Int.reduceLT, Int.reduceToNat, Int.reduceEq, ↓reduceIte, i5] at j5 j7
        simp only [go_sem, Nat.reduceAdd, Nat.reduceMul, Nat.reduceSub, Nat.reduceBEq, Nat.reduceEqDiff, Nat.reduceLeDiff, Nat.reduceLT, Nat.reduceBneDiff, Int.reduceAdd, Int.cast_ofNat_Int, Int.toNat_natCast, Int.reduceLE, Int.reduceLT, Int.reduceToNat, Int.reduceEq, ↓reduceIte, j0, j5, j7, j8, j9, E.adr, E.adr', E.cel, E.cel', E.all, E.all', E.part, E.part', E.part0, E.part0', E.one, E.one', E.one0, E.one0', hsok, a1]
        have hge := firstN_ge (fun t => t.ok && s.e.above t.e) l (l.length - (i + 1)) (i + 1)
        have hle := firstN_le (fun t => t.ok && s.e.above t.e) l (l.length - (i + 1)) (i + 1) (by omega)
        refine ⟨m, by omega, i + 1, lowN l (i + 1) s.e, f, way ++ [i], G', by omega, hle, by unfold lowN; omega, by simp; omega, ?_, ?_, hg'.ow, ?_, rfl, rfl, rfl⟩
        · intro a ha'
          rcases List.mem_append.1 ha' with h1 | h1
          · exact hin a h1
          · simp at h1; omega
        · intro t ht
          obtain ⟨t', ht', hp⟩ := firstN_at (fun t => t.ok && s.e.above t.e) l (l.length - (i + 1)) (i + 1) (by omega) (List.getElem?_eq_some_iff.1 ht).1
          rw [show l[lowN l (i + 1) s.e]? = some t' from ht'] at ht
          cases ht
          simp only [Bool.and_eq_true] at hp
          exact hp.1
        · by_cases he : i + 1 = lowN l (i + 1) s.e
          · left
            refine ⟨he, ?_⟩
            rw [hR2]
            unfold pendB
            rw [← he, frees_self]; rfl
          · right
            exact ⟨by unfold lowN at he ⊢; omega, i, by omega, frees_self _ _, hR2⟩
      · -- between two of its places
        have hne : ((i : Int) == (at' : Int)) = false := by rw [beq_eq_false_iff_ne]; omega
        cases hsok : s.ok
        · have hfr2 : frees l (p + 1) at' = i :: frees l (i + 1) at' := by
            rw [frees_split l (show p + 1 ≤ i by omega) (show i ≤ at' by omega), hfr, frees_split l (show i ≤ i + 1 by omega) (show i + 1 ≤ at' by omega), frees_one hs, hsok]; rfl
          have hR2 : R = way ++ [i] := by rw [hR1]; unfold pendB; rw [hfr2]; rfl
          have hv2 : Lst Sl.c 7 (H ++ (Blk.rw 0 6 x.c :: G)) v l := hv.more _
          have hw2 := hg.lst nC_len
          rw [List.append_assoc, List.singleton_append] at hw2
          obtain ⟨v1, L1, he, hg1⟩ := ev_rend (hook := hook) (lim := H.length) v (e 7) l way i x hv2 hw2 hin (by omega)
          obtain ⟨v', L', hfin, hsh⟩ := hg1.keep Wr.fl
          simp only [List.append_assoc, List.cons_append, List.nil_append] at he hfin
          simp only [f69b1, go_sem, Nat.reduceAdd, Nat.reduceMul, Nat.reduceSub, Nat.reduceBEq, Nat.reduceEqDiff, Nat.reduceLeDiff, Nat.reduceLT, Nat.reduceBneDiff, Int.reduceAdd, Int.cast_ofNat_Int, Int.toNat_natCast, Int.reduceLE, Int.reduceLT, Int.reduceToNat, Int.reduceEq, ↓reduceIte, i0, i5, i8, i9, hlen, d, hne, E.adr, E.adr', E.cel, E.cel', E.all, E.all', E.part, E.part', E.part0, E.part0', E.one, E.one', E.one0, E.one0', hsok, he, hfin]
          exact ⟨L', rfl, by rw [hR2]; exact hsh⟩
        · simp only [f69b1, go_sem, Nat.reduceAdd, Nat.reduceMul, Nat.reduceSub, Nat.reduceBEq, Nat.reduceEqDiff, Nat.reduceLeDiff, Nat.reduceLT, Nat.reduceBneDiff, Int.reduceAdd, Int.cast_ofNat_Int, Int.toNat_natCast, Int.reduceLE, Int.reduceLT, Int.reduceToNat, Int.reduceEq, ↓reduceIte, i0, i5, i8, i9, hlen, d, hne, E.adr, E.adr', E.cel, E.cel', E.all, E.all', E.part, E.part', E.part0, E.part0', E.one, E.one', E.one0, E.one0', hsok, a1]
          have hfr2 : frees l (p + 1) (i + 1) = [] := by rw [frees_snoc (by omega) hs, hfr, hsok]; rfl
          refine ⟨m, by omega, i + 1, at', f, way, G, by omega, hat, hfl, hwf, hin, hok, hg, ?_, rfl, rfl, rfl⟩
          by_cases he : i + 1 = at'
          · left
            refine ⟨he, ?_⟩
            rw [hR1]; unfold pendB
            rw [← he, hfr2]; rfl
          · right
            exact ⟨by omega, p, by omega, hfr2, hR1⟩
  · refine ⟨to, to, l.length + 1, [], [Blk.rw 0 1 []], by omega, hto, by omega, by simp, by simp, hok, ?_, Or.inl ⟨rfl, hR.symm⟩, by simp only [go_sem, Nat.reduceAdd, Nat.reduceMul, Nat.reduceSub, Nat.reduceBEq, Nat.reduceEqDiff, Nat.reduceLeDiff, Nat.reduceLT, Nat.reduceBneDiff, Int.reduceAdd, Int.cast_ofNat_Int, Int.toNat_natCast, Int.reduceLE, Int.reduceLT, Int.reduceToNat, Int.reduceEq, ↓reduceIte], by simp only [go_sem, Nat.reduceAdd, Nat.reduceMul, Nat.reduceSub, Nat.reduceBEq, Nat.reduceEqDiff, Nat.reduceLeDiff, Nat.reduceLT, Nat.reduceBneDiff, Int.reduceAdd, Int.cast_ofNat_Int, Int.toNat_natCast, Int.reduceLE, Int.reduceLT, Int.reduceToNat, Int.reduceEq, ↓reduceIte], by simp only [go_sem, Nat.reduceAdd, Nat.reduceMul, Nat.reduceSub, Nat.reduceBEq, Nat.reduceEqDiff, Nat.reduceLeDiff, Nat.reduceLT, Nat.reduceBneDiff, Int.reduceAdd, Int.cast_ofNat_Int, Int.toNat_natCast, Int.reduceLE, Int.reduceLT, Int.reduceToNat, Int.reduceEq, ↓reduceIte], by simp only [go_sem, Nat.reduceAdd, Nat.reduceMul, Nat.reduceSub, Nat.reduceBEq, Nat.reduceEqDiff, Nat.reduceLeDiff, Nat.reduceLT, Nat.reduceBneDiff, Int.reduceAdd, Int.cast_ofNat_Int, Int.toNat_natCast, Int.reduceLE, Int.reduceLT, Int.reduceToNat, Int.reduceEq, ↓reduceIte], by simp only [go_sem, Nat.reduceAdd, Nat.reduceMul, Nat.reduceSub, Nat.reduceBEq, Nat.reduceEqDiff, Nat.reduceLeDiff, Nat.reduceLT, Nat.reduceBneDiff, Int.reduceAdd, Int.cast_ofNat_Int, Int.toNat_natCast, Int.reduceLE, Int.reduceLT, Int.reduceToNat, Int.reduceEq, ↓reduceIte]⟩
    simp only [go_sem, Nat.reduceAdd, Nat.reduceMul, Nat.reduceSub, Nat.reduceBEq, Nat.reduceEqDiff, Nat.reduceLeDiff, Nat.reduceLT, Nat.reduceBneDiff, Int.reduceAdd, Int.cast_ofNat_Int, Int.toNat_natCast, Int.reduceLE, Int.reduceLT, Int.reduceToNat, Int.reduceEq, ↓reduceIte]
    have := ow_empty (c := nC) (sz := 1) (H ++ [Blk.rw 0 6 x.c]) []
    simpa using this
theorem above_in (v : AV) (l : List Sl) (i : Nat) (B : Heap) (s : Sl) (hs : l[i]? = some s) (hv : Lst Sl.c 7 B v l) (hl : l.length < 1000000) {K : List Frm} {Q : Post} {e : Env}
    (e0 : e 0 = v) (e8 : e 8 = .int .i64 (-1)) (e9 : e 9 = .int .i64 (i : Int)) (e10 : e 10 = .int .i64 0)
    (g : ∀ e' : Env, e' 0 = v → e' 5 = e 5 → e' 7 = e 7 → e' 9 = .int .i64 (i : Int) → e' 8 = .int .i64 ((hiN l i s.e : Int) - 1) → ON (PX hook) lim K (.exit 2) e' B Q) :
    GO (PX hook) lim (.loop f70b0) K e B Q := by
  have hi := (List.getElem?_eq_some_iff.1 hs).1
  obtain ⟨jd, wer, r, F⟩ := hv.at (by omega) Sl.len hs
  refine GO_loop _ (fun n e' H'' => ∃ k : Nat, k + n = i ∧ e' 8 = .int .i64 ((lastN (fun t => t.ok && t.e.above s.e) l k : Int) - 1) ∧ e' 0 = v ∧ e' 5 = e 5 ∧ e' 7 = e 7 ∧ e' 9 = .int .i64 (i : Int) ∧ e' 10 = .int .i64 (k : Int) ∧ H'' = B) ?_ i _ _ ?_
  · rintro n e' H'' ⟨k, hk, j8, j0, j5, j7, j9, j10, rfl⟩
    cases n with
    | zero =>
      have hk' : k = i := by omega
      subst hk'
      simp only [f70b0, go_sem, Nat.reduceAdd, Nat.reduceMul, Nat.reduceSub, Nat.reduceBEq, Nat.reduceEqDiff, Nat.reduceLeDiff, Nat.reduceLT, Nat.reduceBneDiff, Int.reduceAdd, Int.cast_ofNat_Int, Int.toNat_natCast, Int.reduceLE, Int.reduceLT, Int.reduceToNat, Int.reduceEq, ↓reduceIte, j0, j8, j9, j10, lt_false]
      exact g _ (by simp only [go_sem, Nat.reduceAdd, Nat.reduceMul, Nat.reduceSub, Nat.reduceBEq, Nat.reduceEqDiff, Nat.reduceLeDiff, Nat.reduceLT, Nat.reduceBneDiff, Int.reduceAdd, Int.cast_ofNat_Int, Int.toNat_natCast, Int.reduceLE, Int.reduceLT, Int.reduceToNat, Int.reduceEq, ↓reduceIte, j0]) (by simp only [go_sem, Nat.reduceAdd, Nat.reduceMul, Nat.reduceSub, Nat.reduceBEq, Nat.reduceEqDiff, Nat.reduceLeDiff, Nat.reduceLT, Nat.reduceBneDiff, Int.reduceAdd, Int.cast_ofNat_Int, Int.toNat_natCast, Int.reduceLE, Int.reduceLT, Int.reduceToNat, Int.reduceEq, ↓reduceIte, j5]) (by simp only [go_sem, Nat.reduceAdd, Nat.reduceMul, Nat.reduceSub, Nat.reduceBEq, Nat.reduceEqDiff, Nat.reduceLeDiff, Nat.reduceLT, Nat.reduceBneDiff, Int.reduceAdd, Int.cast_ofNat_Int, Int.toNat_natCast, Int.reduceLE, Int.reduceLT, Int.reduceToNat, Int.reduceEq, ↓reduceIte, j7]) (by simp only [go_sem, Nat.reduceAdd, Nat.reduceMul, Nat.reduceSub, Nat.reduceBEq, Nat.reduceEqDiff, Nat.reduceLeDiff, Nat.reduceLT, Nat.reduceBneDiff, Int.reduceAdd, Int.cast_ofNat_Int, Int.toNat_natCast, Int.reduceLE, Int.reduceLT, Int.reduceToNat, Int.reduceEq, ↓reduceIte, j9]) (by simp only [go_sem, Nat.reduceAdd, Nat.reduceMul, Nat.reduceSub, Nat.reduceBEq, Nat.reduceEqDiff, Nat.reduceLeDiff, Nat.reduceLT, Nat.reduceBneDiff, Int.reduceAdd, Int.cast_ofNat_Int, Int.toNat_natCast, Int.reduceLE, Int.reduceLT, Int.reduceToNat, Int.reduceEq, ↓reduceIte, j8, hiN])
    | succ n =>
      obtain ⟨t, ht, _⟩ := get_of_lt (show k < l.length by omega)
      obtain ⟨id, ver, q, E⟩ := hv.at (by omega) Sl.len ht
      have d := lt_true (show k < i by omega)
      have a1 := wrap_succ (show k < 1000000 by omega)
      have hf : lastN (fun t => t.ok && t.e.above s.e) l (k + 1) = if (t.ok && t.e.above s.e) = true then k + 1 else lastN (fun t => t.ok && t.e.above s.e) l k := by rw [lastN, ht]
      cases b1 : t.ok
      · rw [b1, Bool.false_and, if_neg (by simp)] at hf
        simp only [f70b0, go_sem, Nat.reduceAdd, Nat.reduceMul, Nat.reduceSub, Nat.reduceBEq, Nat.reduceEqDiff, Nat.reduceLeDiff, Nat.reduceLT, Nat.reduceBneDiff, Int.reduceAdd, Int.cast_ofNat_Int, Int.toNat_natCast, Int.reduceLE, Int.reduceLT, Int.reduceToNat, Int.reduceEq, ↓reduceIte, j0, j8, j9, j10, d, a1, E.adr, E.adr', E.cel, E.cel', E.all, E.all', E.part, E.part', E.part0, E.part0', E.one, E.one', E.one0, E.one0', F.adr, F.adr', F.cel, F.cel', F.all, F.all', F.part, F.part', F.part0, F.part0', F.one, F.one', F.one0, F.one0', b1]
        exact ⟨n, by omega, k + 1, by omega, by rw [hf], j5, j7, rfl⟩
      · cases b2 : t.e.above s.e
        · rw [b1, b2, if_neg (by simp)] at hf
          simp only [f70b0, go_sem, Nat.reduceAdd, Nat.reduceMul, Nat.reduceSub, Nat.reduceBEq, Nat.reduceEqDiff, Nat.reduceLeDiff, Nat.reduceLT, Nat.reduceBneDiff, Int.reduceAdd, Int.cast_ofNat_Int, Int.toNat_natCast, Int.reduceLE, Int.reduceLT, Int.reduceToNat, Int.reduceEq, ↓reduceIte, j0, j8, j9, j10, d, a1, E.adr, E.adr', E.cel, E.cel', E.all, E.all', E.part, E.part', E.part0, E.part0', E.one, E.one', E.one0, E.one0', F.adr, F.adr', F.cel, F.cel', F.all, F.all', F.part, F.part', F.part0, F.part0', F.one, F.one', F.one0, F.one0', b1, ev_rAbove, b2]
          exact ⟨n, by omega, k + 1, by omega, by rw [hf], j5, j7, rfl⟩
        · rw [b1, b2, if_pos (by simp)] at hf
          simp only [f70b0, go_sem, Nat.reduceAdd, Nat.reduceMul, Nat.reduceSub, Nat.reduceBEq, Nat.reduceEqDiff, Nat.reduceLeDiff, Nat.reduceLT, Nat.reduceBneDiff, Int.reduceAdd, Int.cast_ofNat_Int, Int.toNat_natCast, Int.reduceLE, Int.reduceLT, Int.reduceToNat, Int.reduceEq, ↓reduceIte, j0, j8, j9, j10, d, a1, E.adr, E.adr', E.cel, E.cel', E.all, E.all', E.part, E.part', E.part0, E.part0', E.one, E.one', E.one0, E.one0', F.adr, F.adr', F.cel, F.cel', F.all, F.all', F.part, F.part', F.part0, F.part0', F.one, F.one', F.one0, F.one0', b1, ev_rAbove, b2]
          refine ⟨n, by omega, k + 1, by omega, ?_, j5, j7, rfl⟩
          rw [hf]; congr 1; omega
  · exact ⟨0, by omega, by rw [e8]; rfl, e0, rfl, rfl, e9, by rw [e10]; rfl, rfl⟩
theorem ev_rAboveW (v : AV) (l : List Sl) (from' : Nat) (x : En) (hv : Lst Sl.c 7 H v l) (hl : l.length < 500000) (hfrom : from' ≤ l.length) (hok : ∀ a s, from' = a + 1 → l[a]? = some s → s.ok = true) :
    ∃ v' L, ev (PX hook) lim 70 [v, .int .i64 (from' : Int), .agg x.c] H = some (v', H ++ L) ∧ Gr Wr.c 8 H L v' (writesW l x (wayA l (l.length + 1) from' [])) := by
  suffices hs : EV (PX hook) lim 70 [v, .int .i64 (from' : Int), .agg x.c] H fun v' H' => ∃ L, H' = H ++ L ∧ Gr Wr.c 8 H L v' (writesW l x (wayA l (l.length + 1) from' [])) by
    rw [EV_iff] at hs; obtain ⟨v', H', h1, L, rfl, h2⟩ := hs; exact ⟨v', L, h1, h2⟩
  rw [EV_own _ (PF t70) rfl (by decide)]
  generalize hR : wayA l (l.length + 1) from' [] = R
  have a0 : IntKind.wrap .i64 ((from' : Int) - 1) = (from' : Int) - 1 := by rw [wrap_i64] <;> omega
  simp only [f70, go_sem, Nat.reduceAdd, Nat.reduceMul, Nat.reduceSub, Nat.reduceBEq, Nat.reduceEqDiff, Nat.reduceLeDiff, Nat.reduceLT, Nat.reduceBneDiff, Int.reduceAdd, Int.cast_ofNat_Int, Int.toNat_natCast, Int.reduceLE, Int.reduceLT, Int.reduceToNat, Int.reduceEq, ↓reduceIte, a0]
  refine GO_loop _ (fun m e H' => ∃ (at' f : Nat) (way : List Nat) (G : Heap), m ≤ l.length ∧ at' ≤ m ∧ at' ≤ f ∧ way.length + f ≤ l.length + 1 ∧ (∀ a ∈ way, a < l.length) ∧ (∀ a s, at' = a + 1 → l[a]? = some s → s.ok = true) ∧
    Ow nC 1 (H ++ [Blk.rw 0 6 x.c]) G (e 7) way ∧ ((m = at' ∧ R = wayA l f at' way) ∨ (at' < m ∧ ∃ p, m ≤ p ∧ frees l m p = [] ∧ R = pendA l f p at' way)) ∧
    e 0 = v ∧ e 5 = .ptr H.length 0 0 ∧ e 8 = .int .i64 ((at' : Int) - 1) ∧ e 9 = .int .i64 ((m : Int) - 1) ∧ H' = H ++ (Blk.rw 0 6 x.c :: G)) ?_ from' _ _ ?_
  · rintro m e H' ⟨at', f, way, G, hm, hat, hfl, hwf, hin, hok, hg, hcase, i0, i5, i8, i9, rfl⟩
    have nilf : finish .slices H.length .nils (H ++ (Blk.rw 0 6 x.c :: G)) = some (.nils, H) := finish_nils _ _
    cases m with
    | zero =>
      have hat0 : at' = 0 := by omega
      subst hat0
      have hRn : R = [] := by
        rcases hcase with ⟨h1, h2⟩ | ⟨h1, _⟩
        · rw [h2]; cases f <;> rfl
        · omega
      have d : decide ((0 : Int) ≤ -1) = false := by decide
      have e1 : ((0 : Nat) : Int) - 1 = -1 := rfl
      rw [e1] at i9
      simp only [f70b1, go_sem, Nat.reduceAdd, Nat.reduceMul, Nat.reduceSub, Nat.reduceBEq, Nat.reduceEqDiff, Nat.reduceLeDiff, Nat.reduceLT, Nat.reduceBneDiff, Int.reduceAdd, Int.cast_ofNat_Int, Int.toNat_natCast, Int.reduceLE, Int.reduceLT, Int.reduceToNat, Int.reduceEq, ↓reduceIte, i0, i5, i8, i9, ge_iff_le, d, nilf]
      exact ⟨[], by simp, by rw [hRn]; exact Gr.nil⟩
    | succ i =>
      have e1 : ((i + 1 : Nat) : Int) - 1 = (i : Int) := by omega
      rw [e1] at i9
      obtain ⟨s, hs, _⟩ := get_of_lt (show i < l.length by omega)
      obtain ⟨id, ver, q, E⟩ := hv.at (by omega) Sl.len hs
      have d : decide ((0 : Int) ≤ (i : Int)) = true := by rw [decide_eq_true_eq]; omega
      have a1 : IntKind.wrap .i64 ((i : Int) - 1) = (i : Int) - 1 := by rw [wrap_i64] <;> omega
      rcases hcase with ⟨h1, hR1⟩ | ⟨hlt, p, hpi, hfr, hR1⟩
      · subst h1
        rw [e1] at i8
        have heq : ((i : Int) == (i : Int)) = true := by simp
        have hsok := hok i s rfl hs
        obtain ⟨f, rfl⟩ : ∃ g, f = g + 1 := ⟨f - 1, by omega⟩
        have hR2 : R = pendA l f i (hiN l i s.e) (way ++ [i]) := by
          rw [hR1, wayA, hs]
          unfold pendA
          simp only
          cases (frees l (hiN l i s.e) i).getLast? <;> simp
        obtain ⟨v', G', ha, hg'⟩ := hg.push0 (bytes := 8) (lim := H.length) nC_len i (by simp) (by omega)
        simp only [nC, go_sem, Nat.reduceAdd, Nat.reduceMul, Nat.reduceSub, Nat.reduceBEq, Nat.reduceEqDiff, Nat.reduceLeDiff, Nat.reduceLT, Nat.reduceBneDiff, Int.reduceAdd, Int.cast_ofNat_Int, Int.toNat_natCast, Int.reduceLE, Int.reduceLT, Int.reduceToNat, Int.reduceEq, ↓reduceIte, show H.length + 1 + G.length = H.length + (G.length + 1) by omega] at ha
        have hvB : Lst Sl.c 7 (H ++ (Blk.rw 0 6 x.c :: G')) v l := hv.more _
        simp only [f70b1, go_sem, Nat.reduceAdd, Nat.reduceMul, Nat.reduceSub, Nat.reduceBEq, Nat.reduceEqDiff, Nat.reduceLeDiff, Nat.reduceLT, Nat.reduceBneDiff, Int.reduceAdd, Int.cast_ofNat_Int, Int.toNat_natCast, Int.reduceLE, Int.reduceLT, Int.reduceToNat, Int.reduceEq, ↓reduceIte, i0, i5, i8, i9, ge_iff_le, d, heq, ha]
        refine above_in (hook := hook) (lim := H.length) v l i _ s hs hvB (by omega) (by simp only [go_sem, Nat.reduceAdd, Nat.reduceMul, Nat.reduceSub, Nat.reduceBEq, Nat.reduceEqDiff, Nat.reduceLeDiff, Nat.reduceLT, Nat.reduceBneDiff, Int.reduceAdd, Int.cast_ofNat_Int, Int.toNat_natCast, Int.reduceLE, Int.reduceLT, Int.reduceToNat, Int.reduceEq, ↓reduceIte, i0]) (by simp only [go_sem, Nat.reduceAdd, Nat.reduceMul, Nat.reduceSub, Nat.reduceBEq, Nat.reduceEqDiff, Nat.reduceLeDiff, Nat.reduceLT, Nat.reduceBneDiff, Int.reduceAdd, Int.cast_ofNat_Int, Int.toNat_natCast, Int.reduceLE, Int.reduceLT, Int.reduceToNat, Int.reduceEq, ↓reduceIte]) (by simp only [go_sem, Nat.reduceAdd, Nat.reduceMul, Nat.reduceSub, Nat.reduceBEq, Nat.reduceEqDiff, Nat.reduceLeDiff, Nat.reduceLT, Nat.reduceBneDiff, Int.reduceAdd, Int.cast_ofNat_Int, Int.toNat_natCast, Int.reduceLE, Int.reduceLT, Int.reduceToNat, Int.reduceEq, ↓reduceIte, i9]) (by simp only [go_sem, Nat.reduceAdd, Nat.reduceMul, Nat.reduceSub, Nat.reduceBEq, Nat.reduceEqDiff, Nat.reduceLeDiff, Nat.reduceLT, Nat.reduceBneDiff, Int.reduceAdd, Int.cast_ofNat_Int, Int.toNat_natCast, Int.reduceLE, Int.reduceLT, Int.reduceToNat, Int.reduceEq, ↓reduceIte]) ?_
        intro e' j0 j5 j7 j9 j8
        simp only [go_sem, Nat.reduceAdd, Nat.reduceMul, Nat.reduceSub, Nat.reduceBEq, Nat.reduceEqDiff, Nat.reduceLeDiff, Nat.reduceLT, Nat.reduceBneDiff, Int.reduceAdd, Int.cast_ofNat_Int, Int.toNat_natCast, Int.reduceLE, Int.reduceLT, Int.reduceToNat, Int.reduceEq, ↓reduceIte, i5] at j5 j7
        simp only [go_sem, Nat.reduceAdd, Nat.reduceMul, Nat.reduceSub, Nat.reduceBEq, Nat.reduceEqDiff, Nat.reduceLeDiff, Nat.reduceLT, Nat.reduceBneDiff, Int.reduceAdd, Int.cast_ofNat_Int, Int.toNat_natCast, Int.reduceLE, Int.reduceLT, Int.reduceToNat, Int.reduceEq, ↓reduceIte, j0, j5, j7, j8, j9, E.adr, E.adr', E.cel, E.cel', E.all, E.all', E.part, E.part', E.part0, E.part0', E.one, E.one', E.one0, E.one0', hsok, a1]
        have hle := lastN_le (fun t => t.ok && t.e.above s.e) l i
        refine ⟨i, by omega, hiN l i s.e, f, way ++ [i], G', by omega, hle, by unfold hiN; omega, by simp; omega, ?_, ?_, hg'.ow, ?_, rfl, rfl, rfl⟩
        · intro a ha'
          rcases List.mem_append.1 ha' with h1 | h1
          · exact hin a h1
          · simp at h1; omega
        · intro a t hae ht
          obtain ⟨t', ht', hp⟩ := lastN_at (fun t => t.ok && t.e.above s.e) l i a hae
          rw [ht'] at ht
          cases ht
          simp only [Bool.and_eq_true] at hp
          exact hp.1
        · by_cases he : i = hiN l i s.e
          · left
            refine ⟨he, ?_⟩
            rw [hR2]
            unfold pendA
            rw [← he, frees_self]; rfl
          · right
            exact ⟨by unfold hiN at he ⊢; omega, i, Nat.le_refl _, frees_self _ _, hR2⟩
      · have hne : ((i : Int) == (at' : Int) - 1) = false := by rw [beq_eq_false_iff_ne]; omega
        cases hsok : s.ok
        · have hfr2 : frees l at' p = frees l at' i ++ [i] := by
            rw [frees_split l (show at' ≤ i by omega) (show i ≤ p by omega), frees_split l (show i ≤ i + 1 by omega) (show i + 1 ≤ p by omega), frees_one hs, hsok, hfr]; rfl
          have hR2 : R = way ++ [i] := by rw [hR1]; unfold pendA; rw [hfr2]; simp
          have hv2 : Lst Sl.c 7 (H ++ (Blk.rw 0 6 x.c :: G)) v l := hv.more _
          have hw2 := hg.lst nC_len
          rw [List.append_assoc, List.singleton_append] at hw2
          obtain ⟨v1, L1, he, hg1⟩ := ev_rend (hook := hook) (lim := H.length) v (e 7) l way i x hv2 hw2 hin (by omega)
          obtain ⟨v', L', hfin, hsh⟩ := hg1.keep Wr.fl
          simp only [List.append_assoc, List.cons_append, List.nil_append] at he hfin
          simp only [f70b1, go_sem, Nat.reduceAdd, Nat.reduceMul, Nat.reduceSub, Nat.reduceBEq, Nat.reduceEqDiff, Nat.reduceLeDiff, Nat.reduceLT, Nat.reduceBneDiff, Int.reduceAdd, Int.cast_ofNat_Int, Int.toNat_natCast, Int.reduceLE, Int.reduceLT, Int.reduceToNat, Int.reduceEq, ↓reduceIte, i0, i5, i8, i9, ge_iff_le, d, hne, E.adr, E.adr', E.cel, E.cel', E.all, E.all', E.part, E.part', E.part0, E.part0', E.one, E.one', E.one0, E.one0', hsok, he, hfin]
          exact ⟨L', rfl, by rw [hR2]; exact hsh⟩
        · simp only [f70b1, go_sem, Nat.reduceAdd, Nat.reduceMul, Nat.reduceSub, Nat.reduceBEq, Nat.reduceEqDiff, Nat.reduceLeDiff, Nat.reduceLT, Nat.reduceBneDiff, Int.reduceAdd, Int.cast_ofNat_Int, Int.toNat_natCast, Int.reduceLE, Int.reduceLT, Int.reduceToNat, Int.reduceEq, ↓reduceIte, i0, i5, i8, i9, ge_iff_le, d, hne, E.adr, E.adr', E.cel, E.cel', E.all, E.all', E.part, E.part', E.part0, E.part0', E.one, E.one', E.one0, E.one0', hsok, a1]
          have hfr2 : frees l i p = [] := by rw [frees_split l (show i ≤ i + 1 by omega) (show i + 1 ≤ p by omega), frees_one hs, hsok, hfr]; rfl
          refine ⟨i, by omega, at', f, way, G, by omega, by omega, hfl, hwf, hin, hok, hg, ?_, rfl, rfl, rfl⟩
          by_cases he : i = at'
          · left
            refine ⟨he, ?_⟩
            rw [hR1]; unfold pendA
            rw [← he, hfr2]; rfl
          · right
            exact ⟨by omega, p, by omega, hfr2, hR1⟩
  · refine ⟨from', l.length + 1, [], [Blk.rw 0 1 []], hfrom, Nat.le_refl _, by omega, by simp, by simp, hok, ?_, Or.inl ⟨rfl, hR.symm⟩, by simp only [go_sem, Nat.reduceAdd, Nat.reduceMul, Nat.reduceSub, Nat.reduceBEq, Nat.reduceEqDiff, Nat.reduceLeDiff, Nat.reduceLT, Nat.reduceBneDiff, Int.reduceAdd, Int.cast_ofNat_Int, Int.toNat_natCast, Int.reduceLE, Int.reduceLT, Int.reduceToNat, Int.reduceEq, ↓reduceIte], by simp only [go_sem, Nat.reduceAdd, Nat.reduceMul, Nat.reduceSub, Nat.reduceBEq, Nat.reduceEqDiff, Nat.reduceLeDiff, Nat.reduceLT, Nat.reduceBneDiff, Int.reduceAdd, Int.cast_ofNat_Int, Int.toNat_natCast, Int.reduceLE, Int.reduceLT, Int.reduceToNat, Int.reduceEq, ↓reduceIte], by simp only [go_sem, Nat.reduceAdd, Nat.reduceMul, Nat.reduceSub, Nat.reduceBEq, Nat.reduceEqDiff, Nat.reduceLeDiff, Nat.reduceLT, Nat.reduceBneDiff, Int.reduceAdd, Int.cast_ofNat_Int, Int.toNat_natCast, Int.reduceLE, Int.reduceLT, Int.reduceToNat, Int.reduceEq, ↓reduceIte], by simp only [go_sem, Nat.reduceAdd, Nat.reduceMul, Nat.reduceSub, Nat.reduceBEq, Nat.reduceEqDiff, Nat.reduceLeDiff, Nat.reduceLT, Nat.reduceBneDiff, Int.reduceAdd, Int.cast_ofNat_Int, Int.toNat_natCast, Int.reduceLE, Int.reduceLT, Int.reduceToNat, Int.reduceEq, ↓reduceIte], by simp only [go_sem, Nat.reduceAdd, Nat.reduceMul, Nat.reduceSub, Nat.reduceBEq, Nat.reduceEqDiff, Nat.reduceLeDiff, Nat.reduceLT, Nat.reduceBneDiff, Int.reduceAdd, Int.cast_ofNat_Int, Int.toNat_natCast, Int.reduceLE, Int.reduceLT, Int.reduceToNat, Int.reduceEq, ↓reduceIte]⟩
    simp only [go_sem, Nat.reduceAdd, Nat.reduceMul, Nat.reduceSub, Nat.reduceBEq, Nat.reduceEqDiff, Nat.reduceLeDiff, Nat.reduceLT, Nat.reduceBneDiff, Int.reduceAdd, Int.cast_ofNat_Int, Int.toNat_natCast, Int.reduceLE, Int.reduceLT, Int.reduceToNat, Int.reduceEq, ↓reduceIte]
    have := ow_empty (c := nC) (sz := 1) (H ++ [Blk.rw 0 6 x.c]) []
    simpa using this
end Go.Proofs.Ytmjanbhmpbhagaa.C
