/- THE DOCUMENT'S CALL OVER A TABLE (ref07.Do): what it comes to. Conditions: the slice shows the table. -/
import Derived.Test.YtdapdfaejemgdaaLbR
set_option linter.unusedVariables false
set_option linter.unusedSimpArgs false
namespace Go.AM
/-- A call over a table: the table behind it, whether it was there, its error. -/
def doOp (w : Int) (l : List Rt) (kind : Int) (r : Rt) : List Rt × Bool × Int :=
  if kind = 0 then
    if rightR w r.a r.n r.x = false then (l, false, 1)
    else if (rFind r.a r.n l).isSome = false ∧ 256 ≤ l.length then (l, false, 6)
    else (rPut r l, (rFind r.a r.n l).isSome, 0)
  else if rightP w r.a r.n = false then (l, false, 1)
  else if (rFind r.a r.n l).isSome = false then (l, false, 2)
  else (rDrop r.a r.n l, false, 0)
end Go.AM
namespace Go.Proofs.Ytdapdfaejemgdaa.C
open Go.AM
variable {hook : Nat → Nat → List AV → Heap → Option (AV × Heap)} {lim : Nat} {H : Heap}
theorem rtV_cells' (o : Option Rt) : ∃ cs, rtV o = .tup [.agg cs, .bool o.isSome] ∧ cs.length = 4 ∧ putCells [u64 0#64, u64 0#64, .int .i64 0, .int .i64 0] 0 cs = cs ∧ AV.flats cs = true ∧ List.take 4 cs = cs := by
  cases o with
  | none => exact ⟨[u64 0#64, u64 0#64, .int .i64 0, .int .i64 0], rfl, rfl, rfl, rfl, rfl⟩
  | some r => exact ⟨r.c, rfl, rfl, rfl, rfl, rfl⟩
theorem shows_ne {sz : Nat} {v : AV} {n : Nat} {cs : List AV} (h : Shows H sz v n cs) : ∀ vs, v ≠ .tup vs := by
  obtain ⟨h0, ⟨rfl, rfl⟩ | ⟨id, ver, l, rfl, h2⟩⟩ := h <;> intro vs g <;> cases g
theorem ev_Do (w : Int) (v : AV) (l : List Rt) (kind : Int) (r : Rt) (hv : Shows H 4 v l.length (rows l)) (hl : l.length < 900000) :
    ∃ v' L, ev (PX hook) lim 43 [.int .i64 w, v, .agg [.int .i64 kind, u64 (hi r.a), u64 (lo r.a), .int .i64 r.n, .int .i64 r.x]] H = some (.tup [v', .bool (doOp w l kind r).2.1, .int .i64 (doOp w l kind r).2.2], H ++ L) ∧
      ((v' = v ∧ L = [] ∧ (doOp w l kind r).1 = l) ∨ Grown 4 H L (doOp w l kind r).1.length (rows (doOp w l kind r).1) v') := by
  suffices hs : EV (PX hook) lim 43 [.int .i64 w, v, .agg [.int .i64 kind, u64 (hi r.a), u64 (lo r.a), .int .i64 r.n, .int .i64 r.x]] H fun t H' =>
      ∃ v' L, t = .tup [v', .bool (doOp w l kind r).2.1, .int .i64 (doOp w l kind r).2.2] ∧ H' = H ++ L ∧ ((v' = v ∧ L = [] ∧ (doOp w l kind r).1 = l) ∨ Grown 4 H L (doOp w l kind r).1.length (rows (doOp w l kind r).1) v') by
    rw [EV_iff] at hs
    obtain ⟨t, H', h1, v', L, rfl, rfl, h2⟩ := hs
    exact ⟨v', L, h1, h2⟩
  rw [EV_own _ (PF t43) rfl (by decide)]
  have hlen := hv.len
  have hfind := fun L => ev_rFind (hook := hook) (lim := H.length) v l r.a r.n (hv.more L) (by omega)
  obtain ⟨cs, c1, c2, c3, c4, c5⟩ := rtV_cells' (rFind r.a r.n l)
  rw [c1] at hfind
  have old : ∀ (L : Heap) (b : Bool) (k : Int), finish .slices H.length (.tup [v, .bool b, .int .i64 k]) (H ++ L) = some (.tup [v, .bool b, .int .i64 k], H) := fun L b k => finish_tup3 b k (hv.old L) (shows_ne hv)
  have same : ∀ {b : Bool} {k : Int}, doOp w l kind r = (l, b, k) → ∃ v' L, AV.tup [v, .bool b, .int .i64 k] = .tup [v', .bool (doOp w l kind r).2.1, .int .i64 (doOp w l kind r).2.2] ∧ H = H ++ L ∧ ((v' = v ∧ L = [] ∧ (doOp w l kind r).1 = l) ∨ Grown 4 H L (doOp w l kind r).1.length (rows (doOp w l kind r).1) v') := by
    intro b k e
    exact ⟨v, [], by rw [e], (List.append_nil _).symm, Or.inl ⟨rfl, rfl, by rw [e]⟩⟩
  by_cases hk : kind = 0
  · subst hk
    have z : ((0 : Int) == 0) = true := rfl
    cases hr : rightR w r.a r.n r.x
    · simp only [f43, go_sem, Nat.reduceAdd, Nat.reduceMul, Nat.reduceSub, Nat.reduceBEq, Nat.reduceEqDiff, Nat.reduceLeDiff, Nat.reduceLT, Nat.reduceBneDiff, Int.reduceAdd, Int.cast_ofNat_Int, Int.toNat_natCast, Int.reduceLE, Int.reduceLT, Int.reduceToNat, Int.reduceEq, ↓reduceIte, hfind, c2, c3, z, ev_rRightR, hr, old]
      exact same (by unfold doOp; rw [if_pos rfl, if_pos hr])
    · by_cases hm : (rFind r.a r.n l).isSome = false ∧ 256 ≤ l.length
      · have d : decide ((256 : Int) ≤ (l.length : Int)) = true := by rw [decide_eq_true_eq]; omega
        simp only [f43, go_sem, Nat.reduceAdd, Nat.reduceMul, Nat.reduceSub, Nat.reduceBEq, Nat.reduceEqDiff, Nat.reduceLeDiff, Nat.reduceLT, Nat.reduceBneDiff, Int.reduceAdd, Int.cast_ofNat_Int, Int.toNat_natCast, Int.reduceLE, Int.reduceLT, Int.reduceToNat, Int.reduceEq, ↓reduceIte, hfind, c2, c3, z, ev_rRightR, hr, hm.1, hlen, d, old]
        exact same (by unfold doOp; rw [if_pos rfl, if_neg (by simp [hr]), if_pos hm])
      · obtain ⟨v1, L1, hput, hg⟩ := ev_rPut (hook := hook) (lim := H.length) v l r (hv.more [Blk.rw 0 5 [.int .i64 0, u64 (hi r.a), u64 (lo r.a), .int .i64 r.n, .int .i64 r.x], .rw 0 4 cs]) (by omega)
        obtain ⟨v2, L2, hfin, hg2⟩ := hg.keep (rows_flats _)
        have hfin2 := fun b k => finish_tup3 b k hfin (shows_ne (Grown.shows hg))
        simp only [go_sem, Nat.reduceAdd, Nat.reduceMul, Nat.reduceSub, Nat.reduceBEq, Nat.reduceEqDiff, Nat.reduceLeDiff, Nat.reduceLT, Nat.reduceBneDiff, Int.reduceAdd, Int.cast_ofNat_Int, Int.toNat_natCast, Int.reduceLE, Int.reduceLT, Int.reduceToNat, Int.reduceEq, ↓reduceIte] at hput hfin2
        have e : doOp w l 0 r = (rPut r l, (rFind r.a r.n l).isSome, 0) := by unfold doOp; rw [if_pos rfl, if_neg (by simp [hr]), if_neg hm]
        cases hs : (rFind r.a r.n l).isSome
        · have d : decide ((256 : Int) ≤ (l.length : Int)) = false := by
            rw [decide_eq_false_iff_not]; intro g; exact hm ⟨hs, by omega⟩
          simp only [f43, go_sem, Nat.reduceAdd, Nat.reduceMul, Nat.reduceSub, Nat.reduceBEq, Nat.reduceEqDiff, Nat.reduceLeDiff, Nat.reduceLT, Nat.reduceBneDiff, Int.reduceAdd, Int.cast_ofNat_Int, Int.toNat_natCast, Int.reduceLE, Int.reduceLT, Int.reduceToNat, Int.reduceEq, ↓reduceIte, hfind, c2, c3, z, ev_rRightR, hr, hs, hlen, d, hput, hfin2]
          exact ⟨v2, L2, by rw [e, hs], rfl, Or.inr (by rw [e]; exact hg2)⟩
        · simp only [f43, go_sem, Nat.reduceAdd, Nat.reduceMul, Nat.reduceSub, Nat.reduceBEq, Nat.reduceEqDiff, Nat.reduceLeDiff, Nat.reduceLT, Nat.reduceBneDiff, Int.reduceAdd, Int.cast_ofNat_Int, Int.toNat_natCast, Int.reduceLE, Int.reduceLT, Int.reduceToNat, Int.reduceEq, ↓reduceIte, hfind, c2, c3, z, ev_rRightR, hr, hs, hlen, hput, hfin2]
          exact ⟨v2, L2, by rw [e, hs], rfl, Or.inr (by rw [e]; exact hg2)⟩
  · have z : (kind == 0) = false := by simp [hk]
    cases hr : rightP w r.a r.n
    · simp only [f43, go_sem, Nat.reduceAdd, Nat.reduceMul, Nat.reduceSub, Nat.reduceBEq, Nat.reduceEqDiff, Nat.reduceLeDiff, Nat.reduceLT, Nat.reduceBneDiff, Int.reduceAdd, Int.cast_ofNat_Int, Int.toNat_natCast, Int.reduceLE, Int.reduceLT, Int.reduceToNat, Int.reduceEq, ↓reduceIte, hfind, c2, c3, z, ev_rRight, hr, old]
      exact same (by unfold doOp; rw [if_neg hk, if_pos hr])
    · cases hs : (rFind r.a r.n l).isSome
      · simp only [f43, go_sem, Nat.reduceAdd, Nat.reduceMul, Nat.reduceSub, Nat.reduceBEq, Nat.reduceEqDiff, Nat.reduceLeDiff, Nat.reduceLT, Nat.reduceBneDiff, Int.reduceAdd, Int.cast_ofNat_Int, Int.toNat_natCast, Int.reduceLE, Int.reduceLT, Int.reduceToNat, Int.reduceEq, ↓reduceIte, hfind, c2, c3, z, ev_rRight, hr, hs, old]
        exact same (by unfold doOp; rw [if_neg hk, if_neg (by simp [hr]), if_pos hs])
      · obtain ⟨v1, L1, hput, hg⟩ := ev_rDrop (hook := hook) (lim := H.length) v l r.a r.n (hv.more [Blk.rw 0 5 [.int .i64 kind, u64 (hi r.a), u64 (lo r.a), .int .i64 r.n, .int .i64 r.x], .rw 0 4 cs]) (by omega)
        obtain ⟨v2, L2, hfin, hg2⟩ := hg.keep (rows_flats _)
        have hfin2 := fun b k => finish_tup3 b k hfin (shows_ne (Grown.shows hg))
        simp only [go_sem, Nat.reduceAdd, Nat.reduceMul, Nat.reduceSub, Nat.reduceBEq, Nat.reduceEqDiff, Nat.reduceLeDiff, Nat.reduceLT, Nat.reduceBneDiff, Int.reduceAdd, Int.cast_ofNat_Int, Int.toNat_natCast, Int.reduceLE, Int.reduceLT, Int.reduceToNat, Int.reduceEq, ↓reduceIte] at hput hfin2
        have e : doOp w l kind r = (rDrop r.a r.n l, false, 0) := by unfold doOp; rw [if_neg hk, if_neg (by simp [hr]), if_neg (by simp [hs])]
        simp only [f43, go_sem, Nat.reduceAdd, Nat.reduceMul, Nat.reduceSub, Nat.reduceBEq, Nat.reduceEqDiff, Nat.reduceLeDiff, Nat.reduceLT, Nat.reduceBneDiff, Int.reduceAdd, Int.cast_ofNat_Int, Int.toNat_natCast, Int.reduceLE, Int.reduceLT, Int.reduceToNat, Int.reduceEq, ↓reduceIte, hfind, c2, c3, z, ev_rRight, hr, hs, hput, hfin2]
        exact ⟨v2, L2, by rw [e], rfl, Or.inr (by rw [e]; exact hg2)⟩
end Go.Proofs.Ytdapdfaejemgdaa.C
