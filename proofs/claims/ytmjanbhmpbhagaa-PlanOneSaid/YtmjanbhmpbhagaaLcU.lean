/- THE ORDER OF LENGTHS: the writes from an empty slot to the gap. Conditions: the slices show what is told. -/
import Derived.Test.YtmjanbhmpbhagaaLcT
set_option linter.unusedVariables false
set_option linter.unusedSimpArgs false
namespace Go.AM
def lenAt (l : List Sl) (i : Nat) : Int := ((l[i]?).getD Sl.z).e.n
/-- How near to the end a run of one length goes, of places told by how far they are. -/
def runD (l : List Sl) (p : Nat → Nat) (n0 : Int) : Nat → Nat
  | 0 => 0
  | j + 1 => if lenAt l (p j) = n0 then runD l p n0 j else j + 1
theorem runD_le (l : List Sl) (p : Nat → Nat) (n0 : Int) : ∀ j, runD l p n0 j ≤ j
  | 0 => Nat.le_refl _
  | j + 1 => by
    have := runD_le l p n0 j
    rw [runD]
    split <;> omega
def shiftD (l : List Sl) (p : Nat → Nat) (x : En) : Nat → Nat → List Wr
  | 0, _ => []
  | _ + 1, 0 => [⟨(p 0 : Int), ⟨true, x⟩⟩]
  | f + 1, d + 1 => ⟨(p (d + 1) : Int), (l[p (runD l p (lenAt l (p d)) d)]?).getD Sl.z⟩ :: shiftD l p x f (runD l p (lenAt l (p d)) d)
theorem shiftD_pos (l : List Sl) (p : Nat → Nat) (x : En) (f d : Nat) : 0 < (shiftD l p x (f + 1) d).length := by
  cases d <;> simp [shiftD]
end Go.AM
namespace Go.Proofs.Ytmjanbhmpbhagaa.C
open Go.AM
variable {hook : Nat → Nat → List AV → Heap → Option (AV × Heap)} {lim : Nat} {H : Heap}
theorem shift_in (v : AV) (l : List Sl) (p : Nat → Nat) (st : Int) (d : Nat) (B : Heap) (hst : st = 1 ∨ st = -1) (hp : ∀ j, j ≤ d + 1 → (p j : Int) = (p 0 : Int) - st * j) (hin : ∀ j, j ≤ d + 1 → p j < l.length)
    (hv : Lst Sl.c 7 B v l) (hl : l.length < 1000000) {K : List Frm} {Q : Post} {e : Env}
    (e0 : e 0 = v) (e1 : e 1 = .int .i64 (p (d + 1) : Int)) (e2 : e 2 = .int .i64 (p 0 : Int)) (e3 : e 3 = .int .i64 st) (e12 : e 12 = .int .i64 (p d : Int))
    (g : ∀ e' : Env, e' 0 = v → e' 1 = .int .i64 (p (d + 1) : Int) → e' 2 = .int .i64 (p 0 : Int) → e' 3 = .int .i64 st → e' 9 = e 9 → e' 11 = e 11 → e' 12 = .int .i64 (p (runD l p (lenAt l (p d)) d) : Int) → ON (PX hook) lim K (.exit 2) e' B Q) :
    GO (PX hook) lim (.loop f102b0) K e B Q := by
  have stp : ∀ j, j ≤ d → IntKind.wrap .i64 ((p (j + 1) : Int) + st) = (p j : Int) := by
    intro j hj
    have h1 := hp (j + 1) (by omega)
    have h2 := hp j (by omega)
    have h3 := hin j (by omega)
    rw [wrap_i64] <;> rcases hst with rfl | rfl <;> omega
  obtain ⟨s0, hs0, _⟩ := get_of_lt (hin d (by omega))
  have hn0 : lenAt l (p d) = s0.e.n := by rw [lenAt, hs0]; rfl
  obtain ⟨jd, wer, r, F⟩ := hv.at (by omega) Sl.len hs0
  have w6 := F.n5
  have w6' := F.n5'
  have sd := stp d (Nat.le_refl _)
  refine GO_loop _ (fun n e' H'' => ∃ j : Nat, j = n ∧ j ≤ d ∧ runD l p s0.e.n d = runD l p s0.e.n j ∧ e' 0 = v ∧ e' 1 = .int .i64 (p (d + 1) : Int) ∧ e' 2 = .int .i64 (p 0 : Int) ∧ e' 3 = .int .i64 st ∧ e' 9 = e 9 ∧ e' 11 = e 11 ∧ e' 12 = .int .i64 (p j : Int) ∧ H'' = B) ?_ d _ _ ?_
  · rintro n e' H'' ⟨j, rfl, hj, hr, j0, j1, j2, j3, j9, j11, j12, rfl⟩
    cases j with
    | zero =>
      have d1 : ((p 0 : Int) != (p 0 : Int)) = false := by simp
      simp only [f102b0, go_sem, Nat.reduceAdd, Nat.reduceMul, Nat.reduceSub, Nat.reduceBEq, Nat.reduceEqDiff, Nat.reduceLeDiff, Nat.reduceLT, Nat.reduceBneDiff, Int.reduceAdd, Int.cast_ofNat_Int, Int.toNat_natCast, Int.reduceLE, Int.reduceLT, Int.reduceToNat, Int.reduceEq, ↓reduceIte, j0, j1, j2, j3, j12, d1]
      refine g _ (by simp only [go_sem, Nat.reduceAdd, Nat.reduceMul, Nat.reduceSub, Nat.reduceBEq, Nat.reduceEqDiff, Nat.reduceLeDiff, Nat.reduceLT, Nat.reduceBneDiff, Int.reduceAdd, Int.cast_ofNat_Int, Int.toNat_natCast, Int.reduceLE, Int.reduceLT, Int.reduceToNat, Int.reduceEq, ↓reduceIte, j0]) (by simp only [go_sem, Nat.reduceAdd, Nat.reduceMul, Nat.reduceSub, Nat.reduceBEq, Nat.reduceEqDiff, Nat.reduceLeDiff, Nat.reduceLT, Nat.reduceBneDiff, Int.reduceAdd, Int.cast_ofNat_Int, Int.toNat_natCast, Int.reduceLE, Int.reduceLT, Int.reduceToNat, Int.reduceEq, ↓reduceIte, j1]) (by simp only [go_sem, Nat.reduceAdd, Nat.reduceMul, Nat.reduceSub, Nat.reduceBEq, Nat.reduceEqDiff, Nat.reduceLeDiff, Nat.reduceLT, Nat.reduceBneDiff, Int.reduceAdd, Int.cast_ofNat_Int, Int.toNat_natCast, Int.reduceLE, Int.reduceLT, Int.reduceToNat, Int.reduceEq, ↓reduceIte, j2]) (by simp only [go_sem, Nat.reduceAdd, Nat.reduceMul, Nat.reduceSub, Nat.reduceBEq, Nat.reduceEqDiff, Nat.reduceLeDiff, Nat.reduceLT, Nat.reduceBneDiff, Int.reduceAdd, Int.cast_ofNat_Int, Int.toNat_natCast, Int.reduceLE, Int.reduceLT, Int.reduceToNat, Int.reduceEq, ↓reduceIte, j3]) (by simp only [go_sem, Nat.reduceAdd, Nat.reduceMul, Nat.reduceSub, Nat.reduceBEq, Nat.reduceEqDiff, Nat.reduceLeDiff, Nat.reduceLT, Nat.reduceBneDiff, Int.reduceAdd, Int.cast_ofNat_Int, Int.toNat_natCast, Int.reduceLE, Int.reduceLT, Int.reduceToNat, Int.reduceEq, ↓reduceIte, j9]) (by simp only [go_sem, Nat.reduceAdd, Nat.reduceMul, Nat.reduceSub, Nat.reduceBEq, Nat.reduceEqDiff, Nat.reduceLeDiff, Nat.reduceLT, Nat.reduceBneDiff, Int.reduceAdd, Int.cast_ofNat_Int, Int.toNat_natCast, Int.reduceLE, Int.reduceLT, Int.reduceToNat, Int.reduceEq, ↓reduceIte, j11]) ?_
      rw [hn0, hr]; simp only [go_sem, Nat.reduceAdd, Nat.reduceMul, Nat.reduceSub, Nat.reduceBEq, Nat.reduceEqDiff, Nat.reduceLeDiff, Nat.reduceLT, Nat.reduceBneDiff, Int.reduceAdd, Int.cast_ofNat_Int, Int.toNat_natCast, Int.reduceLE, Int.reduceLT, Int.reduceToNat, Int.reduceEq, ↓reduceIte, j12, runD]
    | succ j =>
      have d1 : ((p (j + 1) : Int) != (p 0 : Int)) = true := by
        have := hp (j + 1) (by omega)
        rw [bne_iff_ne]
        rcases hst with rfl | rfl <;> omega
      obtain ⟨s, hs, _⟩ := get_of_lt (hin j (by omega))
      have hn : lenAt l (p j) = s.e.n := by rw [lenAt, hs]; rfl
      obtain ⟨id, ver, q, E⟩ := hv.at (by omega) Sl.len hs
      have w5 := E.n5
      have w5' := E.n5'
      have sj := stp j (by omega)
      by_cases hq : s.e.n = s0.e.n
      · have d2 : (s.e.n == s0.e.n) = true := by simp [hq]
        simp only [f102b0, go_sem, Nat.reduceAdd, Nat.reduceMul, Nat.reduceSub, Nat.reduceBEq, Nat.reduceEqDiff, Nat.reduceLeDiff, Nat.reduceLT, Nat.reduceBneDiff, Int.reduceAdd, Int.cast_ofNat_Int, Int.toNat_natCast, Int.reduceLE, Int.reduceLT, Int.reduceToNat, Int.reduceEq, ↓reduceIte, j0, j1, j2, j3, j12, d1, sj, sd, E.adr, E.adr', E.cel, E.cel', E.all, E.all', E.part, E.part', E.part0, E.part0', E.one, E.one', E.one0, E.one0', F.adr, F.adr', F.cel, F.cel', F.all, F.all', F.part, F.part', F.part0, F.part0', F.one, F.one', F.one0, F.one0', w5, w5', w6, w6', d2]
        exact ⟨j, by omega, j, rfl, by omega, by rw [hr, runD, hn, if_pos hq], j9, j11, rfl⟩
      · have d2 : (s.e.n == s0.e.n) = false := by simp [hq]
        simp only [f102b0, go_sem, Nat.reduceAdd, Nat.reduceMul, Nat.reduceSub, Nat.reduceBEq, Nat.reduceEqDiff, Nat.reduceLeDiff, Nat.reduceLT, Nat.reduceBneDiff, Int.reduceAdd, Int.cast_ofNat_Int, Int.toNat_natCast, Int.reduceLE, Int.reduceLT, Int.reduceToNat, Int.reduceEq, ↓reduceIte, j0, j1, j2, j3, j12, d1, sj, sd, E.adr, E.adr', E.cel, E.cel', E.all, E.all', E.part, E.part', E.part0, E.part0', E.one, E.one', E.one0, E.one0', F.adr, F.adr', F.cel, F.cel', F.all, F.all', F.part, F.part', F.part0, F.part0', F.one, F.one', F.one0, F.one0', w5, w5', w6, w6', d2]
        refine g _ (by simp only [go_sem, Nat.reduceAdd, Nat.reduceMul, Nat.reduceSub, Nat.reduceBEq, Nat.reduceEqDiff, Nat.reduceLeDiff, Nat.reduceLT, Nat.reduceBneDiff, Int.reduceAdd, Int.cast_ofNat_Int, Int.toNat_natCast, Int.reduceLE, Int.reduceLT, Int.reduceToNat, Int.reduceEq, ↓reduceIte, j0]) (by simp only [go_sem, Nat.reduceAdd, Nat.reduceMul, Nat.reduceSub, Nat.reduceBEq, Nat.reduceEqDiff, Nat.reduceLeDiff, Nat.reduceLT, Nat.reduceBneDiff, Int.reduceAdd, Int.cast_ofNat_Int, Int.toNat_natCast, Int.reduceLE, Int.reduceLT, Int.reduceToNat, Int.reduceEq, ↓reduceIte, j1]) (by simp only [go_sem, Nat.reduceAdd, Nat.reduceMul, Nat.reduceSub, Nat.reduceBEq, Nat.reduceEqDiff, Nat.reduceLeDiff, Nat.reduceLT, Nat.reduceBneDiff, Int.reduceAdd, Int.cast_ofNat_Int, Int.toNat_natCast, Int.reduceLE, Int.reduceLT, Int.reduceToNat, Int.reduceEq, ↓reduceIte, j2]) (by simp only [go_sem, Nat.reduceAdd, Nat.reduceMul, Nat.reduceSub, Nat.reduceBEq, Nat.reduceEqDiff, Nat.reduceLeDiff, Nat.reduceLT, Nat.reduceBneDiff, Int.reduceAdd, Int.cast_ofNat_Int, Int.toNat_natCast, Int.reduceLE, Int.reduceLT, Int.reduceToNat, Int.reduceEq, ↓reduceIte, j3]) (by simp only [go_sem, Nat.reduceAdd, Nat.reduceMul, Nat.reduceSub, Nat.reduceBEq, Nat.reduceEqDiff, Nat.reduceLeDiff, Nat.reduceLT, Nat.reduceBneDiff, Int.reduceAdd, Int.cast_ofNat_Int, Int.toNat_natCast, Int.reduceLE, Int.reduceLT, Int.reduceToNat, Int.reduceEq, ↓reduceIte, j9]) (by simp only [go_sem, Nat.reduceAdd, Nat.reduceMul, Nat.reduceSub, Nat.reduceBEq, Nat.reduceEqDiff, Nat.reduceLeDiff, Nat.reduceLT, Nat.reduceBneDiff, Int.reduceAdd, Int.cast_ofNat_Int, Int.toNat_natCast, Int.reduceLE, Int.reduceLT, Int.reduceToNat, Int.reduceEq, ↓reduceIte, j11]) ?_
        rw [hn0, hr, runD, hn, if_neg hq]; simp only [go_sem, Nat.reduceAdd, Nat.reduceMul, Nat.reduceSub, Nat.reduceBEq, Nat.reduceEqDiff, Nat.reduceLeDiff, Nat.reduceLT, Nat.reduceBneDiff, Int.reduceAdd, Int.cast_ofNat_Int, Int.toNat_natCast, Int.reduceLE, Int.reduceLT, Int.reduceToNat, Int.reduceEq, ↓reduceIte, j12]
  · exact ⟨d, rfl, Nat.le_refl _, rfl, e0, e1, e2, e3, rfl, rfl, e12, rfl⟩
theorem ev_shift (v : AV) (l : List Sl) (p : Nat → Nat) (st : Int) (D : Nat) (x : En) (hst : st = 1 ∨ st = -1) (hp : ∀ j, j ≤ D → (p j : Int) = (p 0 : Int) - st * j) (hin : ∀ j, 0 < D → j ≤ D → p j < l.length) (hD : D < 1000000)
    (hv : Lst Sl.c 7 H v l) (hl : l.length < 1000000) :
    ∃ v' L, ev (PX hook) lim 102 [v, .int .i64 (p D : Int), .int .i64 (p 0 : Int), .int .i64 st, .agg x.c] H = some (v', H ++ L) ∧ Gr Wr.c 8 H L v' (shiftD l p x (D + 1) D) := by
  suffices hs : EV (PX hook) lim 102 [v, .int .i64 (p D : Int), .int .i64 (p 0 : Int), .int .i64 st, .agg x.c] H fun v' H' => ∃ L, H' = H ++ L ∧ Gr Wr.c 8 H L v' (shiftD l p x (D + 1) D) by
    rw [EV_iff] at hs; obtain ⟨v', H', h1, L, rfl, h2⟩ := hs; exact ⟨v', L, h1, h2⟩
  rw [EV_own _ (PF t102) rfl (by decide)]
  generalize hR : shiftD l p x (D + 1) D = R
  simp only [f102, go_sem, Nat.reduceAdd, Nat.reduceMul, Nat.reduceSub, Nat.reduceBEq, Nat.reduceEqDiff, Nat.reduceLeDiff, Nat.reduceLT, Nat.reduceBneDiff, Int.reduceAdd, Int.cast_ofNat_Int, Int.toNat_natCast, Int.reduceLE, Int.reduceLT, Int.reduceToNat, Int.reduceEq, ↓reduceIte]
  refine GO_loop _ (fun m e H' => ∃ (f : Nat) (G : Heap) (acc : List Wr), m ≤ D ∧ m < f ∧ acc.length + m ≤ D ∧ R = acc ++ shiftD l p x f m ∧ Gr Wr.c 8 (H ++ [Blk.rw 0 6 x.c]) G (e 11) acc ∧ e 0 = v ∧ e 1 = .int .i64 (p m : Int) ∧ e 2 = .int .i64 (p 0 : Int) ∧ e 3 = .int .i64 st ∧ e 9 = .ptr H.length 0 0 ∧ H' = H ++ (Blk.rw 0 6 x.c :: G)) ?_ D _ _ ?_
  · rintro m e H' ⟨f, G, acc, hm, hf, hacc, hR, hg, i0, i1, i2, i3, i9, rfl⟩
    obtain ⟨f, rfl⟩ : ∃ f', f = f' + 1 := ⟨f - 1, by omega⟩
    cases m with
    | zero =>
      have d1 : ((p 0 : Int) != (p 0 : Int)) = false := by simp
      rw [shiftD] at hR
      obtain ⟨v', G', hpu, hg'⟩ := hg.push0 (bytes := 64) (lim := H.length) (⟨(p 0 : Int), ⟨true, x⟩⟩ : Wr) rfl (by simp) (by omega)
      obtain ⟨v'', L', hfin, hsh⟩ := hg'.keep Wr.fl
      simp only [go_sem, Nat.reduceAdd, Nat.reduceMul, Nat.reduceSub, Nat.reduceBEq, Nat.reduceEqDiff, Nat.reduceLeDiff, Nat.reduceLT, Nat.reduceBneDiff, Int.reduceAdd, Int.cast_ofNat_Int, Int.toNat_natCast, Int.reduceLE, Int.reduceLT, Int.reduceToNat, Int.reduceEq, ↓reduceIte, show H.length + 1 + G.length = H.length + (G.length + 1) by omega] at hpu hfin
      simp only [f102b1, go_sem, Nat.reduceAdd, Nat.reduceMul, Nat.reduceSub, Nat.reduceBEq, Nat.reduceEqDiff, Nat.reduceLeDiff, Nat.reduceLT, Nat.reduceBneDiff, Int.reduceAdd, Int.cast_ofNat_Int, Int.toNat_natCast, Int.reduceLE, Int.reduceLT, Int.reduceToNat, Int.reduceEq, ↓reduceIte, i0, i1, i2, i3, i9, d1, hpu, hfin]
      exact ⟨L', rfl, by rw [hR]; exact hsh⟩
    | succ m =>
      have d1 : ((p (m + 1) : Int) != (p 0 : Int)) = true := by
        have := hp (m + 1) (by omega)
        rw [bne_iff_ne]
        rcases hst with rfl | rfl <;> omega
      have sd : IntKind.wrap .i64 ((p (m + 1) : Int) + st) = (p m : Int) := by
        have h1 := hp (m + 1) (by omega)
        have h2 := hp m (by omega)
        have h3 := hin m (by omega) (by omega)
        rw [wrap_i64] <;> rcases hst with rfl | rfl <;> omega
      have hvn : Lst Sl.c 7 (H ++ (Blk.rw 0 6 x.c :: G)) v l := hv.more _
      simp only [f102b1, go_sem, Nat.reduceAdd, Nat.reduceMul, Nat.reduceSub, Nat.reduceBEq, Nat.reduceEqDiff, Nat.reduceLeDiff, Nat.reduceLT, Nat.reduceBneDiff, Int.reduceAdd, Int.cast_ofNat_Int, Int.toNat_natCast, Int.reduceLE, Int.reduceLT, Int.reduceToNat, Int.reduceEq, ↓reduceIte, i0, i1, i2, i3, i9, d1, sd]
      rw [shiftD] at hR
      have hrl := runD_le l p (lenAt l (p m)) m
      refine shift_in v l p st m _ hst (fun j hj => hp j (by omega)) (fun j hj => hin j (by omega) (by omega)) hvn hl (by simp only [go_sem, Nat.reduceAdd, Nat.reduceMul, Nat.reduceSub, Nat.reduceBEq, Nat.reduceEqDiff, Nat.reduceLeDiff, Nat.reduceLT, Nat.reduceBneDiff, Int.reduceAdd, Int.cast_ofNat_Int, Int.toNat_natCast, Int.reduceLE, Int.reduceLT, Int.reduceToNat, Int.reduceEq, ↓reduceIte, i0]) (by simp only [go_sem, Nat.reduceAdd, Nat.reduceMul, Nat.reduceSub, Nat.reduceBEq, Nat.reduceEqDiff, Nat.reduceLeDiff, Nat.reduceLT, Nat.reduceBneDiff, Int.reduceAdd, Int.cast_ofNat_Int, Int.toNat_natCast, Int.reduceLE, Int.reduceLT, Int.reduceToNat, Int.reduceEq, ↓reduceIte, i1]) (by simp only [go_sem, Nat.reduceAdd, Nat.reduceMul, Nat.reduceSub, Nat.reduceBEq, Nat.reduceEqDiff, Nat.reduceLeDiff, Nat.reduceLT, Nat.reduceBneDiff, Int.reduceAdd, Int.cast_ofNat_Int, Int.toNat_natCast, Int.reduceLE, Int.reduceLT, Int.reduceToNat, Int.reduceEq, ↓reduceIte, i2]) (by simp only [go_sem, Nat.reduceAdd, Nat.reduceMul, Nat.reduceSub, Nat.reduceBEq, Nat.reduceEqDiff, Nat.reduceLeDiff, Nat.reduceLT, Nat.reduceBneDiff, Int.reduceAdd, Int.cast_ofNat_Int, Int.toNat_natCast, Int.reduceLE, Int.reduceLT, Int.reduceToNat, Int.reduceEq, ↓reduceIte, i3]) (by simp only [go_sem, Nat.reduceAdd, Nat.reduceMul, Nat.reduceSub, Nat.reduceBEq, Nat.reduceEqDiff, Nat.reduceLeDiff, Nat.reduceLT, Nat.reduceBneDiff, Int.reduceAdd, Int.cast_ofNat_Int, Int.toNat_natCast, Int.reduceLE, Int.reduceLT, Int.reduceToNat, Int.reduceEq, ↓reduceIte]) ?_
      intro e' j0 j1 j2 j3 j9 j11 j12
      generalize hr : runD l p (lenAt l (p m)) m = r at *
      obtain ⟨s, hs, _⟩ := get_of_lt (hin r (by omega) (by omega))
      obtain ⟨id, ver, q, E⟩ := hv.at (by omega) Sl.len hs
      rw [hs, Option.getD_some] at hR
      obtain ⟨v', G', hpu, hg'⟩ := hg.push0 (bytes := 64) (lim := H.length) (⟨(p (m + 1) : Int), s⟩ : Wr) rfl (by simp) (by omega)
      simp only [go_sem, Nat.reduceAdd, Nat.reduceMul, Nat.reduceSub, Nat.reduceBEq, Nat.reduceEqDiff, Nat.reduceLeDiff, Nat.reduceLT, Nat.reduceBneDiff, Int.reduceAdd, Int.cast_ofNat_Int, Int.toNat_natCast, Int.reduceLE, Int.reduceLT, Int.reduceToNat, Int.reduceEq, ↓reduceIte, show H.length + 1 + G.length = H.length + (G.length + 1) by omega] at hpu j9 j11
      simp only [go_sem, Nat.reduceAdd, Nat.reduceMul, Nat.reduceSub, Nat.reduceBEq, Nat.reduceEqDiff, Nat.reduceLeDiff, Nat.reduceLT, Nat.reduceBneDiff, Int.reduceAdd, Int.cast_ofNat_Int, Int.toNat_natCast, Int.reduceLE, Int.reduceLT, Int.reduceToNat, Int.reduceEq, ↓reduceIte, i9] at j9
      simp only [go_sem, Nat.reduceAdd, Nat.reduceMul, Nat.reduceSub, Nat.reduceBEq, Nat.reduceEqDiff, Nat.reduceLeDiff, Nat.reduceLT, Nat.reduceBneDiff, Int.reduceAdd, Int.cast_ofNat_Int, Int.toNat_natCast, Int.reduceLE, Int.reduceLT, Int.reduceToNat, Int.reduceEq, ↓reduceIte, j0, j1, j2, j3, j9, j11, j12, E.adr, E.adr', E.cel, E.cel', E.all, E.all', E.part, E.part', E.part0, E.part0', E.one, E.one', E.one0, E.one0', hpu]
      exact ⟨r, by omega, f, G', acc ++ [⟨(p (m + 1) : Int), s⟩], by omega, by omega, by simp; omega, by rw [hR]; simp, hg', rfl, rfl⟩
  · refine ⟨D + 1, [], [], Nat.le_refl _, by omega, by simp, hR.symm, ?_, by simp only [go_sem, Nat.reduceAdd, Nat.reduceMul, Nat.reduceSub, Nat.reduceBEq, Nat.reduceEqDiff, Nat.reduceLeDiff, Nat.reduceLT, Nat.reduceBneDiff, Int.reduceAdd, Int.cast_ofNat_Int, Int.toNat_natCast, Int.reduceLE, Int.reduceLT, Int.reduceToNat, Int.reduceEq, ↓reduceIte], by simp only [go_sem, Nat.reduceAdd, Nat.reduceMul, Nat.reduceSub, Nat.reduceBEq, Nat.reduceEqDiff, Nat.reduceLeDiff, Nat.reduceLT, Nat.reduceBneDiff, Int.reduceAdd, Int.cast_ofNat_Int, Int.toNat_natCast, Int.reduceLE, Int.reduceLT, Int.reduceToNat, Int.reduceEq, ↓reduceIte], by simp only [go_sem, Nat.reduceAdd, Nat.reduceMul, Nat.reduceSub, Nat.reduceBEq, Nat.reduceEqDiff, Nat.reduceLeDiff, Nat.reduceLT, Nat.reduceBneDiff, Int.reduceAdd, Int.cast_ofNat_Int, Int.toNat_natCast, Int.reduceLE, Int.reduceLT, Int.reduceToNat, Int.reduceEq, ↓reduceIte], by simp only [go_sem, Nat.reduceAdd, Nat.reduceMul, Nat.reduceSub, Nat.reduceBEq, Nat.reduceEqDiff, Nat.reduceLeDiff, Nat.reduceLT, Nat.reduceBneDiff, Int.reduceAdd, Int.cast_ofNat_Int, Int.toNat_natCast, Int.reduceLE, Int.reduceLT, Int.reduceToNat, Int.reduceEq, ↓reduceIte], by simp only [go_sem, Nat.reduceAdd, Nat.reduceMul, Nat.reduceSub, Nat.reduceBEq, Nat.reduceEqDiff, Nat.reduceLeDiff, Nat.reduceLT, Nat.reduceBneDiff, Int.reduceAdd, Int.cast_ofNat_Int, Int.toNat_natCast, Int.reduceLE, Int.reduceLT, Int.reduceToNat, Int.reduceEq, ↓reduceIte], by simp only [go_sem, Nat.reduceAdd, Nat.reduceMul, Nat.reduceSub, Nat.reduceBEq, Nat.reduceEqDiff, Nat.reduceLeDiff, Nat.reduceLT, Nat.reduceBneDiff, Int.reduceAdd, Int.cast_ofNat_Int, Int.toNat_natCast, Int.reduceLE, Int.reduceLT, Int.reduceToNat, Int.reduceEq, ↓reduceIte]⟩
    simp only [go_sem, Nat.reduceAdd, Nat.reduceMul, Nat.reduceSub, Nat.reduceBEq, Nat.reduceEqDiff, Nat.reduceLeDiff, Nat.reduceLT, Nat.reduceBneDiff, Int.reduceAdd, Int.cast_ofNat_Int, Int.toNat_natCast, Int.reduceLE, Int.reduceLT, Int.reduceToNat, Int.reduceEq, ↓reduceIte]; exact Gr.nil
end Go.Proofs.Ytmjanbhmpbhagaa.C
