/- THE ORDER OF LENGTHS: the document's writes from an empty slot to the gap. Conditions: those of each. -/
import Derived.Test.YtmjanbhmpbhagaaLcU
set_option linter.unusedVariables false
set_option linter.unusedSimpArgs false
namespace Go.Proofs.Ytmjanbhmpbhagaa.C
open Go.AM
variable {hook : Nat → Nat → List AV → Heap → Option (AV × Heap)} {lim : Nat} {H : Heap}
theorem rbelow_in (v : AV) (l : List Sl) (p : Nat → Nat) (d : Nat) (B : Heap) (hp : ∀ j, j ≤ d + 1 → (p j : Int) = (p 0 : Int) + j) (hin : ∀ j, j ≤ d → p j < l.length) (hc : ∀ i j, i ≤ j → j ≤ d → lenAt l (p i) = lenAt l (p d) → lenAt l (p j) = lenAt l (p d))
    (hv : Lst Sl.c 7 B v l) (hl : l.length < 1000000) {K : List Frm} {Q : Post} {e : Env}
    (e0 : e 0 = v) (e2 : e 2 = .int .i64 (p 0 : Int)) (e10 : e 10 = .int .i64 (p (d + 1) : Int)) (e11 : e 11 = .int .i64 (p d : Int)) (e12 : e 12 = .int .i64 (p d : Int))
    (g : ∀ e' : Env, e' 0 = v → e' 2 = .int .i64 (p 0 : Int) → e' 10 = .int .i64 (p (d + 1) : Int) → e' 7 = e 7 → e' 9 = e 9 → e' 11 = .int .i64 (p (runD l p (lenAt l (p d)) d) : Int) → ON (PX hook) lim K (.exit 2) e' B Q) :
    GO (PX hook) lim (.loop f80b0) K e B Q := by
  obtain ⟨s0, hs0, _⟩ := get_of_lt (hin d (by omega))
  have hn0 : lenAt l (p d) = s0.e.n := by rw [lenAt, hs0]; rfl
  obtain ⟨jd, wer, r, E0⟩ := hv.at (by omega) Sl.len hs0
  have w6 := E0.n5
  have w6' := E0.n5'
  have sd : IntKind.wrap .i64 ((p (d + 1) : Int) - 1) = (p d : Int) := by
    have h1 := hp (d + 1) (by omega)
    have h2 := hp d (by omega)
    have h3 := hin d (by omega)
    rw [wrap_i64] <;> omega
  rw [hn0] at hc g
  refine GO_loop _ (fun m e' H'' => ∃ n F : Nat, n = m ∧ n ≤ d + 1 ∧ ((F = min n d ∧ runD l p s0.e.n d = runD l p s0.e.n (min n d)) ∨ (F = runD l p s0.e.n d ∧ ∀ i, i < n → lenAt l (p i) ≠ s0.e.n)) ∧ e' 0 = v ∧ e' 2 = .int .i64 (p 0 : Int) ∧ e' 10 = .int .i64 (p (d + 1) : Int) ∧ e' 7 = e 7 ∧ e' 9 = e 9 ∧ e' 11 = .int .i64 (p F : Int) ∧ e' 12 = .int .i64 ((p 0 : Int) + ((n : Int) - 1)) ∧ H'' = B) ?_ (d + 1) _ _ ?_
  · rintro m e' H'' ⟨n, F, rfl, hn, hF, j0, j2, j10, j7, j9, j11, j12, rfl⟩
    cases n with
    | zero =>
      have d1 : decide ((p 0 : Int) ≤ (p 0 : Int) + (0 - 1)) = false := by rw [decide_eq_false_iff_not]; omega
      simp only [f80b0, go_sem, Nat.reduceAdd, Nat.reduceMul, Nat.reduceSub, Nat.reduceBEq, Nat.reduceEqDiff, Nat.reduceLeDiff, Nat.reduceLT, Nat.reduceBneDiff, Int.reduceAdd, Int.cast_ofNat_Int, Int.toNat_natCast, Int.reduceLE, Int.reduceLT, Int.reduceToNat, Int.reduceEq, ↓reduceIte, j0, j2, j10, j11, j12, ge_iff_le, d1]
      have hFr : F = runD l p s0.e.n d := by
        rcases hF with ⟨h1, h2⟩ | ⟨h1, _⟩
        · rw [Nat.zero_min] at h1 h2
          rw [h2, h1]; rfl
        · exact h1
      refine g _ (by simp only [go_sem, Nat.reduceAdd, Nat.reduceMul, Nat.reduceSub, Nat.reduceBEq, Nat.reduceEqDiff, Nat.reduceLeDiff, Nat.reduceLT, Nat.reduceBneDiff, Int.reduceAdd, Int.cast_ofNat_Int, Int.toNat_natCast, Int.reduceLE, Int.reduceLT, Int.reduceToNat, Int.reduceEq, ↓reduceIte, j0]) (by simp only [go_sem, Nat.reduceAdd, Nat.reduceMul, Nat.reduceSub, Nat.reduceBEq, Nat.reduceEqDiff, Nat.reduceLeDiff, Nat.reduceLT, Nat.reduceBneDiff, Int.reduceAdd, Int.cast_ofNat_Int, Int.toNat_natCast, Int.reduceLE, Int.reduceLT, Int.reduceToNat, Int.reduceEq, ↓reduceIte, j2]) (by simp only [go_sem, Nat.reduceAdd, Nat.reduceMul, Nat.reduceSub, Nat.reduceBEq, Nat.reduceEqDiff, Nat.reduceLeDiff, Nat.reduceLT, Nat.reduceBneDiff, Int.reduceAdd, Int.cast_ofNat_Int, Int.toNat_natCast, Int.reduceLE, Int.reduceLT, Int.reduceToNat, Int.reduceEq, ↓reduceIte, j10]) (by simp only [go_sem, Nat.reduceAdd, Nat.reduceMul, Nat.reduceSub, Nat.reduceBEq, Nat.reduceEqDiff, Nat.reduceLeDiff, Nat.reduceLT, Nat.reduceBneDiff, Int.reduceAdd, Int.cast_ofNat_Int, Int.toNat_natCast, Int.reduceLE, Int.reduceLT, Int.reduceToNat, Int.reduceEq, ↓reduceIte, j7]) (by simp only [go_sem, Nat.reduceAdd, Nat.reduceMul, Nat.reduceSub, Nat.reduceBEq, Nat.reduceEqDiff, Nat.reduceLeDiff, Nat.reduceLT, Nat.reduceBneDiff, Int.reduceAdd, Int.cast_ofNat_Int, Int.toNat_natCast, Int.reduceLE, Int.reduceLT, Int.reduceToNat, Int.reduceEq, ↓reduceIte, j9]) ?_
      rw [← hFr]; simp only [go_sem, Nat.reduceAdd, Nat.reduceMul, Nat.reduceSub, Nat.reduceBEq, Nat.reduceEqDiff, Nat.reduceLeDiff, Nat.reduceLT, Nat.reduceBneDiff, Int.reduceAdd, Int.cast_ofNat_Int, Int.toNat_natCast, Int.reduceLE, Int.reduceLT, Int.reduceToNat, Int.reduceEq, ↓reduceIte, j11]
    | succ j =>
      have pj : ((p 0 : Int) + (((j + 1 : Nat) : Int) - 1)) = (p j : Int) := by
        have := hp j (by omega)
        omega
      rw [pj] at j12
      have d1 : decide ((p 0 : Int) ≤ (p j : Int)) = true := by
        have := hp j (by omega)
        rw [decide_eq_true_eq]; omega
      obtain ⟨s, hs, _⟩ := get_of_lt (hin j (by omega))
      have hnj : lenAt l (p j) = s.e.n := by rw [lenAt, hs]; rfl
      obtain ⟨id, ver, q, E⟩ := hv.at (by omega) Sl.len hs
      have w5 := E.n5
      have w5' := E.n5'
      have a1 : IntKind.wrap .i64 ((p j : Int) - 1) = (p 0 : Int) + ((j : Int) - 1) := by
        have h1 := hp j (by omega)
        have h3 := hin j (by omega)
        rw [wrap_i64] <;> omega
      by_cases hq : s.e.n = s0.e.n
      · have d2 : (s.e.n == s0.e.n) = true := by simp [hq]
        simp only [f80b0, go_sem, Nat.reduceAdd, Nat.reduceMul, Nat.reduceSub, Nat.reduceBEq, Nat.reduceEqDiff, Nat.reduceLeDiff, Nat.reduceLT, Nat.reduceBneDiff, Int.reduceAdd, Int.cast_ofNat_Int, Int.toNat_natCast, Int.reduceLE, Int.reduceLT, Int.reduceToNat, Int.reduceEq, ↓reduceIte, j0, j2, j10, j12, ge_iff_le, d1, a1, sd, E.adr, E.adr', E.cel, E.cel', E.all, E.all', E.part, E.part', E.part0, E.part0', E.one, E.one', E.one0, E.one0', E0.adr, E0.adr', E0.cel, E0.cel', E0.all, E0.all', E0.part, E0.part', E0.part0, E0.part0', E0.one, E0.one', E0.one0, E0.one0', w5, w5', w6, w6', d2]
        refine ⟨j, by omega, j, j, rfl, by omega, Or.inl ⟨by omega, ?_⟩, j7, j9, rfl, rfl⟩
        rcases hF with ⟨h1, h2⟩ | ⟨_, h2⟩
        · rw [h2]
          by_cases hjd : j = d
          · subst hjd; congr 1; omega
          · rw [show min (j + 1) d = j + 1 by omega, show min j d = j by omega, runD, hnj, if_pos hq]
        · exact absurd (hnj.trans hq) (h2 j (by omega))
      · have d2 : (s.e.n == s0.e.n) = false := by simp [hq]
        simp only [f80b0, go_sem, Nat.reduceAdd, Nat.reduceMul, Nat.reduceSub, Nat.reduceBEq, Nat.reduceEqDiff, Nat.reduceLeDiff, Nat.reduceLT, Nat.reduceBneDiff, Int.reduceAdd, Int.cast_ofNat_Int, Int.toNat_natCast, Int.reduceLE, Int.reduceLT, Int.reduceToNat, Int.reduceEq, ↓reduceIte, j0, j2, j10, j12, ge_iff_le, d1, a1, sd, E.adr, E.adr', E.cel, E.cel', E.all, E.all', E.part, E.part', E.part0, E.part0', E.one, E.one', E.one0, E.one0', E0.adr, E0.adr', E0.cel, E0.cel', E0.all, E0.all', E0.part, E0.part', E0.part0, E0.part0', E0.one, E0.one', E0.one0, E0.one0', w5, w5', w6, w6', d2]
        refine ⟨j, by omega, j, F, rfl, by omega, Or.inr ?_, j7, j9, j11, rfl⟩
        have hjd : j ≠ d := by
          intro h
          subst h
          exact hq (hnj.symm.trans hn0)
        rcases hF with ⟨h1, h2⟩ | ⟨h1, h2⟩
        · refine ⟨?_, fun i hi he => hq (hnj.symm.trans (hc i j (by omega) (by omega) he))⟩
          rw [h2, h1, show min (j + 1) d = j + 1 by omega, runD, hnj, if_neg hq]
        · exact ⟨h1, fun i hi => h2 i (by omega)⟩
  · have := hp d (by omega)
    exact ⟨d + 1, d, rfl, Nat.le_refl _, Or.inl ⟨by omega, by congr 1; omega⟩, e0, e2, e10, rfl, rfl, e11, by rw [e12]; congr 1; omega, rfl⟩
theorem ev_rbelow (v : AV) (l : List Sl) (p : Nat → Nat) (D : Nat) (x : En) (hp : ∀ j, j ≤ D → (p j : Int) = (p 0 : Int) + j) (hin : ∀ j, j < D → p j < l.length) (hpD : p D < 1000000) (hD : D < 1000000)
    (hc : ∀ i j k, i ≤ j → j ≤ k → k < D → lenAt l (p i) = lenAt l (p k) → lenAt l (p j) = lenAt l (p k)) (hv : Lst Sl.c 7 H v l) (hl : l.length < 1000000) :
    ∃ v' L, ev (PX hook) lim 80 [v, .int .i64 (p D : Int), .int .i64 (p 0 : Int), .agg x.c] H = some (v', H ++ L) ∧ Gr Wr.c 8 H L v' (shiftD l p x (D + 1) D) := by
  suffices hs : EV (PX hook) lim 80 [v, .int .i64 (p D : Int), .int .i64 (p 0 : Int), .agg x.c] H fun v' H' => ∃ L, H' = H ++ L ∧ Gr Wr.c 8 H L v' (shiftD l p x (D + 1) D) by
    rw [EV_iff] at hs; obtain ⟨v', H', h1, L, rfl, h2⟩ := hs; exact ⟨v', L, h1, h2⟩
  rw [EV_own _ (PF t80) rfl (by decide)]
  generalize hR : shiftD l p x (D + 1) D = R
  simp only [f80, go_sem, Nat.reduceAdd, Nat.reduceMul, Nat.reduceSub, Nat.reduceBEq, Nat.reduceEqDiff, Nat.reduceLeDiff, Nat.reduceLT, Nat.reduceBneDiff, Int.reduceAdd, Int.cast_ofNat_Int, Int.toNat_natCast, Int.reduceLE, Int.reduceLT, Int.reduceToNat, Int.reduceEq, ↓reduceIte]
  refine GO_loop _ (fun m e H' => ∃ (f : Nat) (G : Heap) (acc : List Wr), m ≤ D ∧ m < f ∧ acc.length + m ≤ D ∧ R = acc ++ shiftD l p x f m ∧ Gr Wr.c 8 (H ++ [Blk.rw 0 6 x.c]) G (e 9) acc ∧ e 0 = v ∧ e 10 = .int .i64 (p m : Int) ∧ e 2 = .int .i64 (p 0 : Int) ∧ e 7 = .ptr H.length 0 0 ∧ H' = H ++ (Blk.rw 0 6 x.c :: G)) ?_ D _ _ ?_
  · rintro m e H' ⟨f, G, acc, hm, hf, hacc, hR, hg, i0, i10, i2, i7, rfl⟩
    obtain ⟨f, rfl⟩ : ∃ f', f = f' + 1 := ⟨f - 1, by omega⟩
    cases m with
    | zero =>
      have d1 : decide ((p 0 : Int) < (p 0 : Int)) = false := by simp
      rw [shiftD] at hR
      obtain ⟨v', G', hpu, hg'⟩ := hg.push0 (bytes := 64) (lim := H.length) (⟨(p 0 : Int), ⟨true, x⟩⟩ : Wr) rfl (by simp) (by omega)
      obtain ⟨v'', L', hfin, hsh⟩ := hg'.keep Wr.fl
      simp only [go_sem, Nat.reduceAdd, Nat.reduceMul, Nat.reduceSub, Nat.reduceBEq, Nat.reduceEqDiff, Nat.reduceLeDiff, Nat.reduceLT, Nat.reduceBneDiff, Int.reduceAdd, Int.cast_ofNat_Int, Int.toNat_natCast, Int.reduceLE, Int.reduceLT, Int.reduceToNat, Int.reduceEq, ↓reduceIte, show H.length + 1 + G.length = H.length + (G.length + 1) by omega] at hpu hfin
      simp only [f80b1, go_sem, Nat.reduceAdd, Nat.reduceMul, Nat.reduceSub, Nat.reduceBEq, Nat.reduceEqDiff, Nat.reduceLeDiff, Nat.reduceLT, Nat.reduceBneDiff, Int.reduceAdd, Int.cast_ofNat_Int, Int.toNat_natCast, Int.reduceLE, Int.reduceLT, Int.reduceToNat, Int.reduceEq, ↓reduceIte, i0, i10, i2, i7, gt_iff_lt, d1, hpu, hfin]
      exact ⟨L', rfl, by rw [hR]; exact hsh⟩
    | succ m =>
      have d1 : decide ((p 0 : Int) < (p (m + 1) : Int)) = true := by
        have := hp (m + 1) (by omega)
        rw [decide_eq_true_eq]; omega
      have sd : IntKind.wrap .i64 ((p (m + 1) : Int) - 1) = (p m : Int) := by
        have h1 := hp (m + 1) (by omega)
        have h2 := hp m (by omega)
        have h3 := hin m (by omega)
        rw [wrap_i64] <;> omega
      have hvn : Lst Sl.c 7 (H ++ (Blk.rw 0 6 x.c :: G)) v l := hv.more _
      simp only [f80b1, go_sem, Nat.reduceAdd, Nat.reduceMul, Nat.reduceSub, Nat.reduceBEq, Nat.reduceEqDiff, Nat.reduceLeDiff, Nat.reduceLT, Nat.reduceBneDiff, Int.reduceAdd, Int.cast_ofNat_Int, Int.toNat_natCast, Int.reduceLE, Int.reduceLT, Int.reduceToNat, Int.reduceEq, ↓reduceIte, i0, i10, i2, i7, gt_iff_lt, d1, sd]
      rw [shiftD] at hR
      have hrl := runD_le l p (lenAt l (p m)) m
      refine rbelow_in v l p m _ (fun j hj => hp j (by omega)) (fun j hj => hin j (by omega)) (fun i j h1 h2 => hc i j m h1 h2 (by omega)) hvn hl (by simp only [go_sem, Nat.reduceAdd, Nat.reduceMul, Nat.reduceSub, Nat.reduceBEq, Nat.reduceEqDiff, Nat.reduceLeDiff, Nat.reduceLT, Nat.reduceBneDiff, Int.reduceAdd, Int.cast_ofNat_Int, Int.toNat_natCast, Int.reduceLE, Int.reduceLT, Int.reduceToNat, Int.reduceEq, ↓reduceIte, i0]) (by simp only [go_sem, Nat.reduceAdd, Nat.reduceMul, Nat.reduceSub, Nat.reduceBEq, Nat.reduceEqDiff, Nat.reduceLeDiff, Nat.reduceLT, Nat.reduceBneDiff, Int.reduceAdd, Int.cast_ofNat_Int, Int.toNat_natCast, Int.reduceLE, Int.reduceLT, Int.reduceToNat, Int.reduceEq, ↓reduceIte, i2]) (by simp only [go_sem, Nat.reduceAdd, Nat.reduceMul, Nat.reduceSub, Nat.reduceBEq, Nat.reduceEqDiff, Nat.reduceLeDiff, Nat.reduceLT, Nat.reduceBneDiff, Int.reduceAdd, Int.cast_ofNat_Int, Int.toNat_natCast, Int.reduceLE, Int.reduceLT, Int.reduceToNat, Int.reduceEq, ↓reduceIte, i10]) (by simp only [go_sem, Nat.reduceAdd, Nat.reduceMul, Nat.reduceSub, Nat.reduceBEq, Nat.reduceEqDiff, Nat.reduceLeDiff, Nat.reduceLT, Nat.reduceBneDiff, Int.reduceAdd, Int.cast_ofNat_Int, Int.toNat_natCast, Int.reduceLE, Int.reduceLT, Int.reduceToNat, Int.reduceEq, ↓reduceIte]) (by simp only [go_sem, Nat.reduceAdd, Nat.reduceMul, Nat.reduceSub, Nat.reduceBEq, Nat.reduceEqDiff, Nat.reduceLeDiff, Nat.reduceLT, Nat.reduceBneDiff, Int.reduceAdd, Int.cast_ofNat_Int, Int.toNat_natCast, Int.reduceLE, Int.reduceLT, Int.reduceToNat, Int.reduceEq, ↓reduceIte]) ?_
      intro e' j0 j2 j10 j7 j9 j11
      generalize hr : runD l p (lenAt l (p m)) m = r at *
      obtain ⟨s, hs, _⟩ := get_of_lt (hin r (by omega))
      obtain ⟨id, ver, q, E⟩ := hv.at (by omega) Sl.len hs
      rw [hs, Option.getD_some] at hR
      obtain ⟨v', G', hpu, hg'⟩ := hg.push0 (bytes := 64) (lim := H.length) (⟨(p (m + 1) : Int), s⟩ : Wr) rfl (by simp) (by omega)
      simp only [go_sem, Nat.reduceAdd, Nat.reduceMul, Nat.reduceSub, Nat.reduceBEq, Nat.reduceEqDiff, Nat.reduceLeDiff, Nat.reduceLT, Nat.reduceBneDiff, Int.reduceAdd, Int.cast_ofNat_Int, Int.toNat_natCast, Int.reduceLE, Int.reduceLT, Int.reduceToNat, Int.reduceEq, ↓reduceIte, show H.length + 1 + G.length = H.length + (G.length + 1) by omega] at hpu j7 j9
      simp only [go_sem, Nat.reduceAdd, Nat.reduceMul, Nat.reduceSub, Nat.reduceBEq, Nat.reduceEqDiff, Nat.reduceLeDiff, Nat.reduceLT, Nat.reduceBneDiff, Int.reduceAdd, Int.cast_ofNat_Int, Int.toNat_natCast, Int.reduceLE, Int.reduceLT, Int.reduceToNat, Int.reduceEq, ↓reduceIte, i7] at j7
      simp only [go_sem, Nat.reduceAdd, Nat.reduceMul, Nat.reduceSub, Nat.reduceBEq, Nat.reduceEqDiff, Nat.reduceLeDiff, Nat.reduceLT, Nat.reduceBneDiff, Int.reduceAdd, Int.cast_ofNat_Int, Int.toNat_natCast, Int.reduceLE, Int.reduceLT, Int.reduceToNat, Int.reduceEq, ↓reduceIte, j0, j2, j10, j7, j9, j11, E.adr, E.adr', E.cel, E.cel', E.all, E.all', E.part, E.part', E.part0, E.part0', E.one, E.one', E.one0, E.one0', hpu]
      exact ⟨r, by omega, f, G', acc ++ [⟨(p (m + 1) : Int), s⟩], by omega, by omega, by simp; omega, by rw [hR]; simp, hg', rfl, rfl⟩
  · refine ⟨D + 1, [], [], Nat.le_refl _, by omega, by simp, hR.symm, ?_, by simp only [go_sem, Nat.reduceAdd, Nat.reduceMul, Nat.reduceSub, Nat.reduceBEq, Nat.reduceEqDiff, Nat.reduceLeDiff, Nat.reduceLT, Nat.reduceBneDiff, Int.reduceAdd, Int.cast_ofNat_Int, Int.toNat_natCast, Int.reduceLE, Int.reduceLT, Int.reduceToNat, Int.reduceEq, ↓reduceIte], by simp only [go_sem, Nat.reduceAdd, Nat.reduceMul, Nat.reduceSub, Nat.reduceBEq, Nat.reduceEqDiff, Nat.reduceLeDiff, Nat.reduceLT, Nat.reduceBneDiff, Int.reduceAdd, Int.cast_ofNat_Int, Int.toNat_natCast, Int.reduceLE, Int.reduceLT, Int.reduceToNat, Int.reduceEq, ↓reduceIte], by simp only [go_sem, Nat.reduceAdd, Nat.reduceMul, Nat.reduceSub, Nat.reduceBEq, Nat.reduceEqDiff, Nat.reduceLeDiff, Nat.reduceLT, Nat.reduceBneDiff, Int.reduceAdd, Int.cast_ofNat_Int, Int.toNat_natCast, Int.reduceLE, Int.reduceLT, Int.reduceToNat, Int.reduceEq, ↓reduceIte], by simp only [go_sem, Nat.reduceAdd, Nat.reduceMul, Nat.reduceSub, Nat.reduceBEq, Nat.reduceEqDiff, Nat.reduceLeDiff, Nat.reduceLT, Nat.reduceBneDiff, Int.reduceAdd, Int.cast_ofNat_Int, Int.toNat_natCast, Int.reduceLE, Int.reduceLT, Int.reduceToNat, Int.reduceEq, ↓reduceIte], by simp only [go_sem, Nat.reduceAdd, Nat.reduceMul, Nat.reduceSub, Nat.reduceBEq, Nat.reduceEqDiff, Nat.reduceLeDiff, Nat.reduceLT, Nat.reduceBneDiff, Int.reduceAdd, Int.cast_ofNat_Int, Int.toNat_natCast, Int.reduceLE, Int.reduceLT, Int.reduceToNat, Int.reduceEq, ↓reduceIte]⟩
    simp only [go_sem, Nat.reduceAdd, Nat.reduceMul, Nat.reduceSub, Nat.reduceBEq, Nat.reduceEqDiff, Nat.reduceLeDiff, Nat.reduceLT, Nat.reduceBneDiff, Int.reduceAdd, Int.cast_ofNat_Int, Int.toNat_natCast, Int.reduceLE, Int.reduceLT, Int.reduceToNat, Int.reduceEq, ↓reduceIte]; exact Gr.nil
theorem rabove_in (v : AV) (l : List Sl) (p : Nat → Nat) (d : Nat) (B : Heap) (hp : ∀ j, j ≤ d + 1 → (p j : Int) = (p 0 : Int) - j) (hin : ∀ j, j ≤ d → p j < l.length) (hc : ∀ i j, i ≤ j → j ≤ d → lenAt l (p i) = lenAt l (p d) → lenAt l (p j) = lenAt l (p d))
    (hv : Lst Sl.c 7 B v l) (hl : l.length < 1000000) {K : List Frm} {Q : Post} {e : Env}
    (e0 : e 0 = v) (e2 : e 2 = .int .i64 (p 0 : Int)) (e10 : e 10 = .int .i64 (p (d + 1) : Int)) (e11 : e 11 = .int .i64 (p d : Int)) (e12 : e 12 = .int .i64 (p d : Int))
    (g : ∀ e' : Env, e' 0 = v → e' 2 = .int .i64 (p 0 : Int) → e' 10 = .int .i64 (p (d + 1) : Int) → e' 7 = e 7 → e' 9 = e 9 → e' 11 = .int .i64 (p (runD l p (lenAt l (p d)) d) : Int) → ON (PX hook) lim K (.exit 2) e' B Q) :
    GO (PX hook) lim (.loop f79b0) K e B Q := by
  obtain ⟨s0, hs0, _⟩ := get_of_lt (hin d (by omega))
  have hn0 : lenAt l (p d) = s0.e.n := by rw [lenAt, hs0]; rfl
  obtain ⟨jd, wer, r, E0⟩ := hv.at (by omega) Sl.len hs0
  have w6 := E0.n5
  have w6' := E0.n5'
  have sd : IntKind.wrap .i64 ((p (d + 1) : Int) + 1) = (p d : Int) := by
    have h1 := hp (d + 1) (by omega)
    have h2 := hp d (by omega)
    have h3 := hin d (by omega)
    rw [wrap_i64] <;> omega
  rw [hn0] at hc g
  refine GO_loop _ (fun m e' H'' => ∃ n F : Nat, n = m ∧ n ≤ d + 1 ∧ ((F = min n d ∧ runD l p s0.e.n d = runD l p s0.e.n (min n d)) ∨ (F = runD l p s0.e.n d ∧ ∀ i, i < n → lenAt l (p i) ≠ s0.e.n)) ∧ e' 0 = v ∧ e' 2 = .int .i64 (p 0 : Int) ∧ e' 10 = .int .i64 (p (d + 1) : Int) ∧ e' 7 = e 7 ∧ e' 9 = e 9 ∧ e' 11 = .int .i64 (p F : Int) ∧ e' 12 = .int .i64 ((p 0 : Int) - ((n : Int) - 1)) ∧ H'' = B) ?_ (d + 1) _ _ ?_
  · rintro m e' H'' ⟨n, F, rfl, hn, hF, j0, j2, j10, j7, j9, j11, j12, rfl⟩
    cases n with
    | zero =>
      have d1 : decide ((p 0 : Int) - (0 - 1) ≤ (p 0 : Int)) = false := by rw [decide_eq_false_iff_not]; omega
      simp only [f79b0, go_sem, Nat.reduceAdd, Nat.reduceMul, Nat.reduceSub, Nat.reduceBEq, Nat.reduceEqDiff, Nat.reduceLeDiff, Nat.reduceLT, Nat.reduceBneDiff, Int.reduceAdd, Int.cast_ofNat_Int, Int.toNat_natCast, Int.reduceLE, Int.reduceLT, Int.reduceToNat, Int.reduceEq, ↓reduceIte, j0, j2, j10, j11, j12, ge_iff_le, d1]
      have hFr : F = runD l p s0.e.n d := by
        rcases hF with ⟨h1, h2⟩ | ⟨h1, _⟩
        · rw [Nat.zero_min] at h1 h2
          rw [h2, h1]; rfl
        · exact h1
      refine g _ (by simp only [go_sem, Nat.reduceAdd, Nat.reduceMul, Nat.reduceSub, Nat.reduceBEq, Nat.reduceEqDiff, Nat.reduceLeDiff, Nat.reduceLT, Nat.reduceBneDiff, Int.reduceAdd, Int.cast_ofNat_Int, Int.toNat_natCast, Int.reduceLE, Int.reduceLT, Int.reduceToNat, Int.reduceEq, ↓reduceIte, j0]) (by simp only [go_sem, Nat.reduceAdd, Nat.reduceMul, Nat.reduceSub, Nat.reduceBEq, Nat.reduceEqDiff, Nat.reduceLeDiff, Nat.reduceLT, Nat.reduceBneDiff, Int.reduceAdd, Int.cast_ofNat_Int, Int.toNat_natCast, Int.reduceLE, Int.reduceLT, Int.reduceToNat, Int.reduceEq, ↓reduceIte, j2]) (by simp only [go_sem, Nat.reduceAdd, Nat.reduceMul, Nat.reduceSub, Nat.reduceBEq, Nat.reduceEqDiff, Nat.reduceLeDiff, Nat.reduceLT, Nat.reduceBneDiff, Int.reduceAdd, Int.cast_ofNat_Int, Int.toNat_natCast, Int.reduceLE, Int.reduceLT, Int.reduceToNat, Int.reduceEq, ↓reduceIte, j10]) (by simp only [go_sem, Nat.reduceAdd, Nat.reduceMul, Nat.reduceSub, Nat.reduceBEq, Nat.reduceEqDiff, Nat.reduceLeDiff, Nat.reduceLT, Nat.reduceBneDiff, Int.reduceAdd, Int.cast_ofNat_Int, Int.toNat_natCast, Int.reduceLE, Int.reduceLT, Int.reduceToNat, Int.reduceEq, ↓reduceIte, j7]) (by simp only [go_sem, Nat.reduceAdd, Nat.reduceMul, Nat.reduceSub, Nat.reduceBEq, Nat.reduceEqDiff, Nat.reduceLeDiff, Nat.reduceLT, Nat.reduceBneDiff, Int.reduceAdd, Int.cast_ofNat_Int, Int.toNat_natCast, Int.reduceLE, Int.reduceLT, Int.reduceToNat, Int.reduceEq, ↓reduceIte, j9]) ?_
      rw [← hFr]; simp only [go_sem, Nat.reduceAdd, Nat.reduceMul, Nat.reduceSub, Nat.reduceBEq, Nat.reduceEqDiff, Nat.reduceLeDiff, Nat.reduceLT, Nat.reduceBneDiff, Int.reduceAdd, Int.cast_ofNat_Int, Int.toNat_natCast, Int.reduceLE, Int.reduceLT, Int.reduceToNat, Int.reduceEq, ↓reduceIte, j11]
    | succ j =>
      have pj : ((p 0 : Int) - (((j + 1 : Nat) : Int) - 1)) = (p j : Int) := by
        have := hp j (by omega)
        omega
      rw [pj] at j12
      have d1 : decide ((p j : Int) ≤ (p 0 : Int)) = true := by
        have := hp j (by omega)
        rw [decide_eq_true_eq]; omega
      obtain ⟨s, hs, _⟩ := get_of_lt (hin j (by omega))
      have hnj : lenAt l (p j) = s.e.n := by rw [lenAt, hs]; rfl
      obtain ⟨id, ver, q, E⟩ := hv.at (by omega) Sl.len hs
      have w5 := E.n5
      have w5' := E.n5'
      have a1 : IntKind.wrap .i64 ((p j : Int) + 1) = (p 0 : Int) - ((j : Int) - 1) := by
        have h1 := hp j (by omega)
        have h3 := hin j (by omega)
        rw [wrap_i64] <;> omega
      by_cases hq : s.e.n = s0.e.n
      · have d2 : (s.e.n == s0.e.n) = true := by simp [hq]
        simp only [f79b0, go_sem, Nat.reduceAdd, Nat.reduceMul, Nat.reduceSub, Nat.reduceBEq, Nat.reduceEqDiff, Nat.reduceLeDiff, Nat.reduceLT, Nat.reduceBneDiff, Int.reduceAdd, Int.cast_ofNat_Int, Int.toNat_natCast, Int.reduceLE, Int.reduceLT, Int.reduceToNat, Int.reduceEq, ↓reduceIte, j0, j2, j10, j12, ge_iff_le, d1, a1, sd, E.adr, E.adr', E.cel, E.cel', E.all, E.all', E.part, E.part', E.part0, E.part0', E.one, E.one', E.one0, E.one0', E0.adr, E0.adr', E0.cel, E0.cel', E0.all, E0.all', E0.part, E0.part', E0.part0, E0.part0', E0.one, E0.one', E0.one0, E0.one0', w5, w5', w6, w6', d2]
        refine ⟨j, by omega, j, j, rfl, by omega, Or.inl ⟨by omega, ?_⟩, j7, j9, rfl, rfl⟩
        rcases hF with ⟨h1, h2⟩ | ⟨_, h2⟩
        · rw [h2]
          by_cases hjd : j = d
          · subst hjd; congr 1; omega
          · rw [show min (j + 1) d = j + 1 by omega, show min j d = j by omega, runD, hnj, if_pos hq]
        · exact absurd (hnj.trans hq) (h2 j (by omega))
      · have d2 : (s.e.n == s0.e.n) = false := by simp [hq]
        simp only [f79b0, go_sem, Nat.reduceAdd, Nat.reduceMul, Nat.reduceSub, Nat.reduceBEq, Nat.reduceEqDiff, Nat.reduceLeDiff, Nat.reduceLT, Nat.reduceBneDiff, Int.reduceAdd, Int.cast_ofNat_Int, Int.toNat_natCast, Int.reduceLE, Int.reduceLT, Int.reduceToNat, Int.reduceEq, ↓reduceIte, j0, j2, j10, j12, ge_iff_le, d1, a1, sd, E.adr, E.adr', E.cel, E.cel', E.all, E.all', E.part, E.part', E.part0, E.part0', E.one, E.one', E.one0, E.one0', E0.adr, E0.adr', E0.cel, E0.cel', E0.all, E0.all', E0.part, E0.part', E0.part0, E0.part0', E0.one, E0.one', E0.one0, E0.one0', w5, w5', w6, w6', d2]
        refine ⟨j, by omega, j, F, rfl, by omega, Or.inr ?_, j7, j9, j11, rfl⟩
        have hjd : j ≠ d := by
          intro h
          subst h
          exact hq (hnj.symm.trans hn0)
        rcases hF with ⟨h1, h2⟩ | ⟨h1, h2⟩
        · refine ⟨?_, fun i hi he => hq (hnj.symm.trans (hc i j (by omega) (by omega) he))⟩
          rw [h2, h1, show min (j + 1) d = j + 1 by omega, runD, hnj, if_neg hq]
        · exact ⟨h1, fun i hi => h2 i (by omega)⟩
  · have := hp d (by omega)
    exact ⟨d + 1, d, rfl, Nat.le_refl _, Or.inl ⟨by omega, by congr 1; omega⟩, e0, e2, e10, rfl, rfl, e11, by rw [e12]; congr 1; omega, rfl⟩
theorem ev_rabove (v : AV) (l : List Sl) (p : Nat → Nat) (D : Nat) (x : En) (hp : ∀ j, j ≤ D → (p j : Int) = (p 0 : Int) - j) (hin : ∀ j, j < D → p j < l.length) (hpD : p D < 1000000) (hD : D < 1000000)
    (hc : ∀ i j k, i ≤ j → j ≤ k → k < D → lenAt l (p i) = lenAt l (p k) → lenAt l (p j) = lenAt l (p k)) (hv : Lst Sl.c 7 H v l) (hl : l.length < 1000000) :
    ∃ v' L, ev (PX hook) lim 79 [v, .int .i64 (p D : Int), .int .i64 (p 0 : Int), .agg x.c] H = some (v', H ++ L) ∧ Gr Wr.c 8 H L v' (shiftD l p x (D + 1) D) := by
  suffices hs : EV (PX hook) lim 79 [v, .int .i64 (p D : Int), .int .i64 (p 0 : Int), .agg x.c] H fun v' H' => ∃ L, H' = H ++ L ∧ Gr Wr.c 8 H L v' (shiftD l p x (D + 1) D) by
    rw [EV_iff] at hs; obtain ⟨v', H', h1, L, rfl, h2⟩ := hs; exact ⟨v', L, h1, h2⟩
  rw [EV_own _ (PF t79) rfl (by decide)]
  generalize hR : shiftD l p x (D + 1) D = R
  simp only [f79, go_sem, Nat.reduceAdd, Nat.reduceMul, Nat.reduceSub, Nat.reduceBEq, Nat.reduceEqDiff, Nat.reduceLeDiff, Nat.reduceLT, Nat.reduceBneDiff, Int.reduceAdd, Int.cast_ofNat_Int, Int.toNat_natCast, Int.reduceLE, Int.reduceLT, Int.reduceToNat, Int.reduceEq, ↓reduceIte]
  refine GO_loop _ (fun m e H' => ∃ (f : Nat) (G : Heap) (acc : List Wr), m ≤ D ∧ m < f ∧ acc.length + m ≤ D ∧ R = acc ++ shiftD l p x f m ∧ Gr Wr.c 8 (H ++ [Blk.rw 0 6 x.c]) G (e 9) acc ∧ e 0 = v ∧ e 10 = .int .i64 (p m : Int) ∧ e 2 = .int .i64 (p 0 : Int) ∧ e 7 = .ptr H.length 0 0 ∧ H' = H ++ (Blk.rw 0 6 x.c :: G)) ?_ D _ _ ?_
  · rintro m e H' ⟨f, G, acc, hm, hf, hacc, hR, hg, i0, i10, i2, i7, rfl⟩
    obtain ⟨f, rfl⟩ : ∃ f', f = f' + 1 := ⟨f - 1, by omega⟩
    cases m with
    | zero =>
      have d1 : decide ((p 0 : Int) < (p 0 : Int)) = false := by simp
      rw [shiftD] at hR
      obtain ⟨v', G', hpu, hg'⟩ := hg.push0 (bytes := 64) (lim := H.length) (⟨(p 0 : Int), ⟨true, x⟩⟩ : Wr) rfl (by simp) (by omega)
      obtain ⟨v'', L', hfin, hsh⟩ := hg'.keep Wr.fl
      simp only [go_sem, Nat.reduceAdd, Nat.reduceMul, Nat.reduceSub, Nat.reduceBEq, Nat.reduceEqDiff, Nat.reduceLeDiff, Nat.reduceLT, Nat.reduceBneDiff, Int.reduceAdd, Int.cast_ofNat_Int, Int.toNat_natCast, Int.reduceLE, Int.reduceLT, Int.reduceToNat, Int.reduceEq, ↓reduceIte, show H.length + 1 + G.length = H.length + (G.length + 1) by omega] at hpu hfin
      simp only [f79b1, go_sem, Nat.reduceAdd, Nat.reduceMul, Nat.reduceSub, Nat.reduceBEq, Nat.reduceEqDiff, Nat.reduceLeDiff, Nat.reduceLT, Nat.reduceBneDiff, Int.reduceAdd, Int.cast_ofNat_Int, Int.toNat_natCast, Int.reduceLE, Int.reduceLT, Int.reduceToNat, Int.reduceEq, ↓reduceIte, i0, i10, i2, i7, gt_iff_lt, d1, hpu, hfin]
      exact ⟨L', rfl, by rw [hR]; exact hsh⟩
    | succ m =>
      have d1 : decide ((p (m + 1) : Int) < (p 0 : Int)) = true := by
        have := hp (m + 1) (by omega)
        rw [decide_eq_true_eq]; omega
      have sd : IntKind.wrap .i64 ((p (m + 1) : Int) + 1) = (p m : Int) := by
        have h1 := hp (m + 1) (by omega)
        have h2 := hp m (by omega)
        have h3 := hin m (by omega)
        rw [wrap_i64] <;> omega
      have hvn : Lst Sl.c 7 (H ++ (Blk.rw 0 6 x.c :: G)) v l := hv.more _
      simp only [f79b1, go_sem, Nat.reduceAdd, Nat.reduceMul, Nat.reduceSub, Nat.reduceBEq, Nat.reduceEqDiff, Nat.reduceLeDiff, Nat.reduceLT, Nat.reduceBneDiff, Int.reduceAdd, Int.cast_ofNat_Int, Int.toNat_natCast, Int.reduceLE, Int.reduceLT, Int.reduceToNat, Int.reduceEq, ↓reduceIte, i0, i10, i2, i7, gt_iff_lt, d1, sd]
      rw [shiftD] at hR
      have hrl := runD_le l p (lenAt l (p m)) m
      refine rabove_in v l p m _ (fun j hj => hp j (by omega)) (fun j hj => hin j (by omega)) (fun i j h1 h2 => hc i j m h1 h2 (by omega)) hvn hl (by simp only [go_sem, Nat.reduceAdd, Nat.reduceMul, Nat.reduceSub, Nat.reduceBEq, Nat.reduceEqDiff, Nat.reduceLeDiff, Nat.reduceLT, Nat.reduceBneDiff, Int.reduceAdd, Int.cast_ofNat_Int, Int.toNat_natCast, Int.reduceLE, Int.reduceLT, Int.reduceToNat, Int.reduceEq, ↓reduceIte, i0]) (by simp only [go_sem, Nat.reduceAdd, Nat.reduceMul, Nat.reduceSub, Nat.reduceBEq, Nat.reduceEqDiff, Nat.reduceLeDiff, Nat.reduceLT, Nat.reduceBneDiff, Int.reduceAdd, Int.cast_ofNat_Int, Int.toNat_natCast, Int.reduceLE, Int.reduceLT, Int.reduceToNat, Int.reduceEq, ↓reduceIte, i2]) (by simp only [go_sem, Nat.reduceAdd, Nat.reduceMul, Nat.reduceSub, Nat.reduceBEq, Nat.reduceEqDiff, Nat.reduceLeDiff, Nat.reduceLT, Nat.reduceBneDiff, Int.reduceAdd, Int.cast_ofNat_Int, Int.toNat_natCast, Int.reduceLE, Int.reduceLT, Int.reduceToNat, Int.reduceEq, ↓reduceIte, i10]) (by simp only [go_sem, Nat.reduceAdd, Nat.reduceMul, Nat.reduceSub, Nat.reduceBEq, Nat.reduceEqDiff, Nat.reduceLeDiff, Nat.reduceLT, Nat.reduceBneDiff, Int.reduceAdd, Int.cast_ofNat_Int, Int.toNat_natCast, Int.reduceLE, Int.reduceLT, Int.reduceToNat, Int.reduceEq, ↓reduceIte]) (by simp only [go_sem, Nat.reduceAdd, Nat.reduceMul, Nat.reduceSub, Nat.reduceBEq, Nat.reduceEqDiff, Nat.reduceLeDiff, Nat.reduceLT, Nat.reduceBneDiff, Int.reduceAdd, Int.cast_ofNat_Int, Int.toNat_natCast, Int.reduceLE, Int.reduceLT, Int.reduceToNat, Int.reduceEq, ↓reduceIte]) ?_
      intro e' j0 j2 j10 j7 j9 j11
      generalize hr : runD l p (lenAt l (p m)) m = r at *
      obtain ⟨s, hs, _⟩ := get_of_lt (hin r (by omega))
      obtain ⟨id, ver, q, E⟩ := hv.at (by omega) Sl.len hs
      rw [hs, Option.getD_some] at hR
      obtain ⟨v', G', hpu, hg'⟩ := hg.push0 (bytes := 64) (lim := H.length) (⟨(p (m + 1) : Int), s⟩ : Wr) rfl (by simp) (by omega)
      simp only [go_sem, Nat.reduceAdd, Nat.reduceMul, Nat.reduceSub, Nat.reduceBEq, Nat.reduceEqDiff, Nat.reduceLeDiff, Nat.reduceLT, Nat.reduceBneDiff, Int.reduceAdd, Int.cast_ofNat_Int, Int.toNat_natCast, Int.reduceLE, Int.reduceLT, Int.reduceToNat, Int.reduceEq, ↓reduceIte, show H.length + 1 + G.length = H.length + (G.length + 1) by omega] at hpu j7 j9
      simp only [go_sem, Nat.reduceAdd, Nat.reduceMul, Nat.reduceSub, Nat.reduceBEq, Nat.reduceEqDiff, Nat.reduceLeDiff, Nat.reduceLT, Nat.reduceBneDiff, Int.reduceAdd, Int.cast_ofNat_Int, Int.toNat_natCast, Int.reduceLE, Int.reduceLT, Int.reduceToNat, Int.reduceEq, ↓reduceIte, i7] at j7
      simp only [go_sem, Nat.reduceAdd, Nat.reduceMul, Nat.reduceSub, Nat.reduceBEq, Nat.reduceEqDiff, Nat.reduceLeDiff, Nat.reduceLT, Nat.reduceBneDiff, Int.reduceAdd, Int.cast_ofNat_Int, Int.toNat_natCast, Int.reduceLE, Int.reduceLT, Int.reduceToNat, Int.reduceEq, ↓reduceIte, j0, j2, j10, j7, j9, j11, E.adr, E.adr', E.cel, E.cel', E.all, E.all', E.part, E.part', E.part0, E.part0', E.one, E.one', E.one0, E.one0', hpu]
      exact ⟨r, by omega, f, G', acc ++ [⟨(p (m + 1) : Int), s⟩], by omega, by omega, by simp; omega, by rw [hR]; simp, hg', rfl, rfl⟩
  · refine ⟨D + 1, [], [], Nat.le_refl _, by omega, by simp, hR.symm, ?_, by simp only [go_sem, Nat.reduceAdd, Nat.reduceMul, Nat.reduceSub, Nat.reduceBEq, Nat.reduceEqDiff, Nat.reduceLeDiff, Nat.reduceLT, Nat.reduceBneDiff, Int.reduceAdd, Int.cast_ofNat_Int, Int.toNat_natCast, Int.reduceLE, Int.reduceLT, Int.reduceToNat, Int.reduceEq, ↓reduceIte], by simp only [go_sem, Nat.reduceAdd, Nat.reduceMul, Nat.reduceSub, Nat.reduceBEq, Nat.reduceEqDiff, Nat.reduceLeDiff, Nat.reduceLT, Nat.reduceBneDiff, Int.reduceAdd, Int.cast_ofNat_Int, Int.toNat_natCast, Int.reduceLE, Int.reduceLT, Int.reduceToNat, Int.reduceEq, ↓reduceIte], by simp only [go_sem, Nat.reduceAdd, Nat.reduceMul, Nat.reduceSub, Nat.reduceBEq, Nat.reduceEqDiff, Nat.reduceLeDiff, Nat.reduceLT, Nat.reduceBneDiff, Int.reduceAdd, Int.cast_ofNat_Int, Int.toNat_natCast, Int.reduceLE, Int.reduceLT, Int.reduceToNat, Int.reduceEq, ↓reduceIte], by simp only [go_sem, Nat.reduceAdd, Nat.reduceMul, Nat.reduceSub, Nat.reduceBEq, Nat.reduceEqDiff, Nat.reduceLeDiff, Nat.reduceLT, Nat.reduceBneDiff, Int.reduceAdd, Int.cast_ofNat_Int, Int.toNat_natCast, Int.reduceLE, Int.reduceLT, Int.reduceToNat, Int.reduceEq, ↓reduceIte], by simp only [go_sem, Nat.reduceAdd, Nat.reduceMul, Nat.reduceSub, Nat.reduceBEq, Nat.reduceEqDiff, Nat.reduceLeDiff, Nat.reduceLT, Nat.reduceBneDiff, Int.reduceAdd, Int.cast_ofNat_Int, Int.toNat_natCast, Int.reduceLE, Int.reduceLT, Int.reduceToNat, Int.reduceEq, ↓reduceIte]⟩
    simp only [go_sem, Nat.reduceAdd, Nat.reduceMul, Nat.reduceSub, Nat.reduceBEq, Nat.reduceEqDiff, Nat.reduceLeDiff, Nat.reduceLT, Nat.reduceBneDiff, Int.reduceAdd, Int.cast_ofNat_Int, Int.toNat_natCast, Int.reduceLE, Int.reduceLT, Int.reduceToNat, Int.reduceEq, ↓reduceIte]; exact Gr.nil
end Go.Proofs.Ytmjanbhmpbhagaa.C
