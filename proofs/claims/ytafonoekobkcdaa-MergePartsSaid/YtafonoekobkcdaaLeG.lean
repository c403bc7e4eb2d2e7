/- ROWS MERGED: Simple, Mode, Build: the program's. Conditions: the slices show what is told. -/
import Derived.Test.YtafonoekobkcdaaLeF
set_option linter.unusedVariables false
set_option linter.unusedSimpArgs false
namespace Go.AM
def clash (x y : En) : Bool := (x.n == y.n) && x.w.meet y.w
def simN : List En → List En → Bool
  | _, [] => true
  | pre, x :: l => !(pre.any (clash x)) && simN (pre ++ [x]) l
def simpleP (l : List En) : Bool := simN [] l
theorem cells_end (B G : Heap) (sz : Nat) (cs : List AV) : Heap.cells (B ++ (G ++ [Blk.rw 0 sz cs])) (B.length + G.length) 0 = some cs := by
  simp [Heap.cells, get_end, Blk.ver, Blk.cells]
theorem keepP_len (l : List Rt) : (keepP l).length ≤ l.length := by
  have key : ∀ (l : List Rt) (st : List Rt × List Rt), (l.foldl keepS st).1.length ≤ st.1.length + l.length := by
    intro l
    induction l with
    | nil => intro st; simp
    | cons r l ih =>
      intro st
      rw [List.foldl_cons]
      refine Nat.le_trans (ih _) ?_
      unfold keepS
      simp only
      split <;> simp <;> omega
  have := key l ([], [])
  simpa [keepP] using this
def rowE (l : List Rt) : List En := l.map fun r => En.ofP r.a r.n r.x
def buildW (l : List Rt) (mode : Int) : List En :=
  if mode < 0 ∨ 2 < mode then [] else if mode = 2 then mergeW (rowE (keepP l)) else if mode = 0 then eSort (rowE l) else eSort (rowE (keepP l))
end Go.AM
namespace Go.Proofs.Ytafonoekobkcdaa.C
open Go.AM
variable {hook : Nat → Nat → List AV → Heap → Option (AV × Heap)} {lim : Nat} {H : Heap}
theorem simple_in (u : AV) (pre : List En) (x : En) (B : Heap) (k : Nat) (hu : Lst En.c 6 B u pre) (hl : pre.length < 1000000) (hb : ∀ L, Heap.cells (B ++ L) k 0 = some x.c) {K : List Frm} {Q : Post} {e : Env}
    (e4 : e 4 = .ptr k 0 0) (e16 : e 16 = u) (e17 : e 17 = .int .i64 (pre.length : Int)) (e18 : e 18 = .int .i64 0)
    (gN : pre.any (clash x) = false → ∀ (e' : Env) (G : Heap), e' 0 = e 0 → e' 7 = e 7 → e' 8 = e 8 → e' 9 = e 9 → ON (PX hook) lim K (.exit 2) e' (B ++ G) Q)
    (gS : pre.any (clash x) = true → ∀ (e' : Env) (G : Heap), e' 2 = .bool false → ON (PX hook) lim K .ret e' (B ++ G) Q) :
    GO (PX hook) lim (.loop f13b0) K e B Q := by
  refine GO_loop _ (fun m e' H' => ∃ (j : Nat) (G : Heap), j + m = pre.length ∧ pre.any (clash x) = (pre.drop j).any (clash x) ∧ e' 0 = e 0 ∧ e' 4 = .ptr k 0 0 ∧ e' 7 = e 7 ∧ e' 8 = e 8 ∧ e' 9 = e 9 ∧ e' 16 = u ∧ e' 17 = .int .i64 (pre.length : Int) ∧ e' 18 = .int .i64 (j : Int) ∧ H' = B ++ G) ?_ pre.length _ _ ?_
  · rintro m e' H' ⟨j, G, hj, ha, i0, i4, i7, i8, i9, i16, i17, i18, rfl⟩
    cases m with
    | zero =>
      have hj' : j = pre.length := by omega
      subst hj'
      rw [List.drop_of_length_le (Nat.le_refl _)] at ha
      simp only [f13b0, go_sem, Nat.reduceAdd, Nat.reduceMul, Nat.reduceSub, Nat.reduceBEq, Nat.reduceEqDiff, Nat.reduceLeDiff, Nat.reduceLT, Nat.reduceBneDiff, Int.reduceAdd, Int.cast_ofNat_Int, Int.toNat_natCast, Int.reduceLE, Int.reduceLT, Int.reduceToNat, Int.reduceEq, ↓reduceIte, i4, i16, i17, i18, lt_false]
      exact gN ha _ G (by simp only [go_sem, Nat.reduceAdd, Nat.reduceMul, Nat.reduceSub, Nat.reduceBEq, Nat.reduceEqDiff, Nat.reduceLeDiff, Nat.reduceLT, Nat.reduceBneDiff, Int.reduceAdd, Int.cast_ofNat_Int, Int.toNat_natCast, Int.reduceLE, Int.reduceLT, Int.reduceToNat, Int.reduceEq, ↓reduceIte, i0]) (by simp only [go_sem, Nat.reduceAdd, Nat.reduceMul, Nat.reduceSub, Nat.reduceBEq, Nat.reduceEqDiff, Nat.reduceLeDiff, Nat.reduceLT, Nat.reduceBneDiff, Int.reduceAdd, Int.cast_ofNat_Int, Int.toNat_natCast, Int.reduceLE, Int.reduceLT, Int.reduceToNat, Int.reduceEq, ↓reduceIte, i7]) (by simp only [go_sem, Nat.reduceAdd, Nat.reduceMul, Nat.reduceSub, Nat.reduceBEq, Nat.reduceEqDiff, Nat.reduceLeDiff, Nat.reduceLT, Nat.reduceBneDiff, Int.reduceAdd, Int.cast_ofNat_Int, Int.toNat_natCast, Int.reduceLE, Int.reduceLT, Int.reduceToNat, Int.reduceEq, ↓reduceIte, i8]) (by simp only [go_sem, Nat.reduceAdd, Nat.reduceMul, Nat.reduceSub, Nat.reduceBEq, Nat.reduceEqDiff, Nat.reduceLeDiff, Nat.reduceLT, Nat.reduceBneDiff, Int.reduceAdd, Int.cast_ofNat_Int, Int.toNat_natCast, Int.reduceLE, Int.reduceLT, Int.reduceToNat, Int.reduceEq, ↓reduceIte, i9])
    | succ m =>
      obtain ⟨y, hy, hdrop⟩ := Go.AM.get_of_lt (show j < pre.length by omega)
      obtain ⟨id, ver, q, E⟩ := hu.at (by omega) En.len hy
      have d := lt_true (show j < pre.length by omega)
      have a1 := wrap_succ (show j < 1000000 by omega)
      rw [hdrop, List.any_cons] at ha
      have hm := fun lim H => ev_WMeet (hook := hook) (lim := lim) (H := H) x.w y.w
      cases hn : (x.n == y.n)
      · rw [clash, hn, Bool.false_and, Bool.false_or] at ha
        simp only [f13b0, go_sem, Nat.reduceAdd, Nat.reduceMul, Nat.reduceSub, Nat.reduceBEq, Nat.reduceEqDiff, Nat.reduceLeDiff, Nat.reduceLT, Nat.reduceBneDiff, Int.reduceAdd, Int.cast_ofNat_Int, Int.toNat_natCast, Int.reduceLE, Int.reduceLT, Int.reduceToNat, Int.reduceEq, ↓reduceIte, i4, i16, i17, i18, d, a1, E.adr, E.adr', E.cel, E.cel', E.all, E.all', E.part, E.part', E.part0, E.part0', E.one, E.one', E.one0, E.one0', En.len, En.put, write_endE, cells_end, hb, En.get4, hn]
        exact ⟨m, by omega, j + 1, _, by omega, ha, i0, i7, i8, i9, rfl, rfl⟩
      · cases hw : x.w.meet y.w
        · rw [clash, hn, hw, Bool.and_false, Bool.false_or] at ha
          rw [hw] at hm
          simp only [f13b0, go_sem, Nat.reduceAdd, Nat.reduceMul, Nat.reduceSub, Nat.reduceBEq, Nat.reduceEqDiff, Nat.reduceLeDiff, Nat.reduceLT, Nat.reduceBneDiff, Int.reduceAdd, Int.cast_ofNat_Int, Int.toNat_natCast, Int.reduceLE, Int.reduceLT, Int.reduceToNat, Int.reduceEq, ↓reduceIte, i4, i16, i17, i18, d, a1, E.adr, E.adr', E.cel, E.cel', E.all, E.all', E.part, E.part', E.part0, E.part0', E.one, E.one', E.one0, E.one0', En.len, En.put, write_endE, cells_end, hb, En.get4, En.wrd, hn, hm]
          exact ⟨m, by omega, j + 1, _, by omega, ha, i0, i7, i8, i9, rfl, rfl⟩
        · rw [clash, hn, hw, Bool.and_true, Bool.true_or] at ha
          rw [hw] at hm
          simp only [f13b0, go_sem, Nat.reduceAdd, Nat.reduceMul, Nat.reduceSub, Nat.reduceBEq, Nat.reduceEqDiff, Nat.reduceLeDiff, Nat.reduceLT, Nat.reduceBneDiff, Int.reduceAdd, Int.cast_ofNat_Int, Int.toNat_natCast, Int.reduceLE, Int.reduceLT, Int.reduceToNat, Int.reduceEq, ↓reduceIte, i4, i16, i17, i18, d, a1, E.adr, E.adr', E.cel, E.cel', E.all, E.all', E.part, E.part', E.part0, E.part0', E.one, E.one', E.one0, E.one0', En.len, En.put, write_endE, cells_end, hb, En.get4, En.wrd, hn, hm]
          exact gS ha _ _ (by simp only [go_sem, Nat.reduceAdd, Nat.reduceMul, Nat.reduceSub, Nat.reduceBEq, Nat.reduceEqDiff, Nat.reduceLeDiff, Nat.reduceLT, Nat.reduceBneDiff, Int.reduceAdd, Int.cast_ofNat_Int, Int.toNat_natCast, Int.reduceLE, Int.reduceLT, Int.reduceToNat, Int.reduceEq, ↓reduceIte])
  · exact ⟨0, [], by omega, by simp, rfl, e4, rfl, rfl, rfl, e16, e17, e18, by simp⟩
theorem ev_Simple (v : AV) (l : List En) (hv : Lst En.c 6 H v l) (hl : l.length < 1000000) : ev (PX hook) lim 13 [v] H = some (.bool (simpleP l), H) := by
  refine ev_own _ (PF t13) rfl (by decide) ?_
  have hlen := hv.len'
  generalize hR : simpleP l = R
  simp only [f13, go_sem, Nat.reduceAdd, Nat.reduceMul, Nat.reduceSub, Nat.reduceBEq, Nat.reduceEqDiff, Nat.reduceLeDiff, Nat.reduceLT, Nat.reduceBneDiff, Int.reduceAdd, Int.cast_ofNat_Int, Int.toNat_natCast, Int.reduceLE, Int.reduceLT, Int.reduceToNat, Int.reduceEq, ↓reduceIte, hlen]
  refine GO_loop _ (fun m e H' => ∃ (i : Nat) (G : Heap), i + m = l.length ∧ R = simN (l.take i) (l.drop i) ∧ e 0 = v ∧ e 7 = v ∧ e 8 = .int .i64 (l.length : Int) ∧ e 9 = .int .i64 (i : Int) ∧ H' = H ++ G) ?_ l.length _ _ ?_
  · rintro m e H' ⟨i, G, hi, hs, i0, i7, i8, i9, rfl⟩
    cases m with
    | zero =>
      have hi' : i = l.length := by omega
      subst hi'
      rw [List.drop_of_length_le (Nat.le_refl _), simN] at hs
      subst hs
      simp only [f13b1, go_sem, Nat.reduceAdd, Nat.reduceMul, Nat.reduceSub, Nat.reduceBEq, Nat.reduceEqDiff, Nat.reduceLeDiff, Nat.reduceLT, Nat.reduceBneDiff, Int.reduceAdd, Int.cast_ofNat_Int, Int.toNat_natCast, Int.reduceLE, Int.reduceLT, Int.reduceToNat, Int.reduceEq, ↓reduceIte, i0, i7, i8, i9, lt_false]
    | succ m =>
      obtain ⟨x, hx, hdrop⟩ := Go.AM.get_of_lt (show i < l.length by omega)
      obtain ⟨id, ver, q, E⟩ := hv.at (by omega) En.len hx
      have d := lt_true (show i < l.length by omega)
      have a1 := wrap_succ (show i < 1000000 by omega)
      rw [hdrop, simN, ← Go.AM.take_succ_of hx] at hs
      have hb : ∀ L, Heap.cells ((H ++ (G ++ [Blk.rw 0 6 x.c])) ++ L) (H.length + G.length) 0 = some x.c := by
        intro L
        have := cells_at (H ++ G) L (Blk.rw 0 6 x.c) (H.length + G.length) (by simp)
        simpa [Blk.ver, Blk.cells] using this
      obtain ⟨u, _, _, p0, _, l0⟩ := (hv.more (G ++ [Blk.rw 0 6 x.c])).sub En.len 0 i (by omega) (by omega)
      obtain ⟨p0, p0'⟩ := p0 rfl
      rw [List.drop_zero] at l0
      have hti : (l.take i).length = i := by rw [List.length_take]; omega
      have nl := l0.len'
      rw [hti] at nl
      simp only [f13b1, go_sem, Nat.reduceAdd, Nat.reduceMul, Nat.reduceSub, Nat.reduceBEq, Nat.reduceEqDiff, Nat.reduceLeDiff, Nat.reduceLT, Nat.reduceBneDiff, Int.reduceAdd, Int.cast_ofNat_Int, Int.toNat_natCast, Int.reduceLE, Int.reduceLT, Int.reduceToNat, Int.reduceEq, ↓reduceIte, i0, i7, i8, i9, d, a1, E.adr, E.adr', E.cel, E.cel', E.all, E.all', E.part, E.part', E.part0, E.part0', E.one, E.one', E.one0, E.one0', En.len, En.put, write_endE, p0', nl]
      refine simple_in u (l.take i) x _ (H.length + G.length) l0 (by omega) hb (by simp only [go_sem, Nat.reduceAdd, Nat.reduceMul, Nat.reduceSub, Nat.reduceBEq, Nat.reduceEqDiff, Nat.reduceLeDiff, Nat.reduceLT, Nat.reduceBneDiff, Int.reduceAdd, Int.cast_ofNat_Int, Int.toNat_natCast, Int.reduceLE, Int.reduceLT, Int.reduceToNat, Int.reduceEq, ↓reduceIte]) (by simp only [go_sem, Nat.reduceAdd, Nat.reduceMul, Nat.reduceSub, Nat.reduceBEq, Nat.reduceEqDiff, Nat.reduceLeDiff, Nat.reduceLT, Nat.reduceBneDiff, Int.reduceAdd, Int.cast_ofNat_Int, Int.toNat_natCast, Int.reduceLE, Int.reduceLT, Int.reduceToNat, Int.reduceEq, ↓reduceIte]) (by simp only [go_sem, Nat.reduceAdd, Nat.reduceMul, Nat.reduceSub, Nat.reduceBEq, Nat.reduceEqDiff, Nat.reduceLeDiff, Nat.reduceLT, Nat.reduceBneDiff, Int.reduceAdd, Int.cast_ofNat_Int, Int.toNat_natCast, Int.reduceLE, Int.reduceLT, Int.reduceToNat, Int.reduceEq, ↓reduceIte, hti]) (by simp only [go_sem, Nat.reduceAdd, Nat.reduceMul, Nat.reduceSub, Nat.reduceBEq, Nat.reduceEqDiff, Nat.reduceLeDiff, Nat.reduceLT, Nat.reduceBneDiff, Int.reduceAdd, Int.cast_ofNat_Int, Int.toNat_natCast, Int.reduceLE, Int.reduceLT, Int.reduceToNat, Int.reduceEq, ↓reduceIte]) ?_ ?_
      · intro hn e' G' j0 j7 j8 j9
        rw [hn] at hs
        simp only [go_sem, Nat.reduceAdd, Nat.reduceMul, Nat.reduceSub, Nat.reduceBEq, Nat.reduceEqDiff, Nat.reduceLeDiff, Nat.reduceLT, Nat.reduceBneDiff, Int.reduceAdd, Int.cast_ofNat_Int, Int.toNat_natCast, Int.reduceLE, Int.reduceLT, Int.reduceToNat, Int.reduceEq, ↓reduceIte, i0, i7, i8, i9] at j0 j7 j8 j9
        simp only [go_sem, Nat.reduceAdd, Nat.reduceMul, Nat.reduceSub, Nat.reduceBEq, Nat.reduceEqDiff, Nat.reduceLeDiff, Nat.reduceLT, Nat.reduceBneDiff, Int.reduceAdd, Int.cast_ofNat_Int, Int.toNat_natCast, Int.reduceLE, Int.reduceLT, Int.reduceToNat, Int.reduceEq, ↓reduceIte, j0, j7, j8, j9, a1]
        exact ⟨m, by omega, i + 1, _, by omega, by simpa using hs, rfl, rfl⟩
      · intro hn e' G' j2
        rw [hn] at hs
        have : R = false := by simpa using hs
        subst this
        simp only [go_sem, Nat.reduceAdd, Nat.reduceMul, Nat.reduceSub, Nat.reduceBEq, Nat.reduceEqDiff, Nat.reduceLeDiff, Nat.reduceLT, Nat.reduceBneDiff, Int.reduceAdd, Int.cast_ofNat_Int, Int.toNat_natCast, Int.reduceLE, Int.reduceLT, Int.reduceToNat, Int.reduceEq, ↓reduceIte, j2]
  · exact ⟨0, [], by omega, by rw [← hR]; rfl, by simp only [go_sem, Nat.reduceAdd, Nat.reduceMul, Nat.reduceSub, Nat.reduceBEq, Nat.reduceEqDiff, Nat.reduceLeDiff, Nat.reduceLT, Nat.reduceBneDiff, Int.reduceAdd, Int.cast_ofNat_Int, Int.toNat_natCast, Int.reduceLE, Int.reduceLT, Int.reduceToNat, Int.reduceEq, ↓reduceIte], by simp only [go_sem, Nat.reduceAdd, Nat.reduceMul, Nat.reduceSub, Nat.reduceBEq, Nat.reduceEqDiff, Nat.reduceLeDiff, Nat.reduceLT, Nat.reduceBneDiff, Int.reduceAdd, Int.cast_ofNat_Int, Int.toNat_natCast, Int.reduceLE, Int.reduceLT, Int.reduceToNat, Int.reduceEq, ↓reduceIte], by simp only [go_sem, Nat.reduceAdd, Nat.reduceMul, Nat.reduceSub, Nat.reduceBEq, Nat.reduceEqDiff, Nat.reduceLeDiff, Nat.reduceLT, Nat.reduceBneDiff, Int.reduceAdd, Int.cast_ofNat_Int, Int.toNat_natCast, Int.reduceLE, Int.reduceLT, Int.reduceToNat, Int.reduceEq, ↓reduceIte], by simp only [go_sem, Nat.reduceAdd, Nat.reduceMul, Nat.reduceSub, Nat.reduceBEq, Nat.reduceEqDiff, Nat.reduceLeDiff, Nat.reduceLT, Nat.reduceBneDiff, Int.reduceAdd, Int.cast_ofNat_Int, Int.toNat_natCast, Int.reduceLE, Int.reduceLT, Int.reduceToNat, Int.reduceEq, ↓reduceIte], by simp⟩
theorem ev_Mode (n : Int) : ev (PX hook) lim 19 [.int .i64 n] H = some (.bool (decide (0 ≤ n) && decide (n ≤ 2)), H) := by
  refine ev_own _ (PF t19) rfl (by decide) ?_
  cases h1 : decide (0 ≤ n)
  · simp only [f19, go_sem, Nat.reduceAdd, Nat.reduceMul, Nat.reduceSub, Nat.reduceBEq, Nat.reduceEqDiff, Nat.reduceLeDiff, Nat.reduceLT, Nat.reduceBneDiff, Int.reduceAdd, Int.cast_ofNat_Int, Int.toNat_natCast, Int.reduceLE, Int.reduceLT, Int.reduceToNat, Int.reduceEq, ↓reduceIte, ge_iff_le, h1]
  · cases h2 : decide (n ≤ 2) <;> simp only [f19, go_sem, Nat.reduceAdd, Nat.reduceMul, Nat.reduceSub, Nat.reduceBEq, Nat.reduceEqDiff, Nat.reduceLeDiff, Nat.reduceLT, Nat.reduceBneDiff, Int.reduceAdd, Int.cast_ofNat_Int, Int.toNat_natCast, Int.reduceLE, Int.reduceLT, Int.reduceToNat, Int.reduceEq, ↓reduceIte, ge_iff_le, h1, h2]
theorem build_in (u : AV) (k : List Rt) (B : Heap) (hlim : lim ≤ B.length) (hu : Lst Rt.c 4 B u k) (hl : k.length < 1000000) {K : List Frm} {Q : Post} {e : Env}
    (e5 : e 5 = .nils) (e15 : e 15 = u) (e16 : e 16 = .int .i64 (k.length : Int)) (e17 : e 17 = .int .i64 0)
    (g : ∀ (e' : Env) (G : Heap), e' 1 = e 1 → Gr En.c 6 B G (e' 5) (rowE k) → ON (PX hook) lim K (.exit 0) e' (B ++ G) Q) :
    GO (PX hook) lim (.loop f16b0) K e B Q := by
  refine GO_loop _ (fun m e' H' => ∃ (j : Nat) (G : Heap), j + m = k.length ∧ Gr En.c 6 B G (e' 5) (rowE (k.take j)) ∧ e' 1 = e 1 ∧ e' 15 = u ∧ e' 16 = .int .i64 (k.length : Int) ∧ e' 17 = .int .i64 (j : Int) ∧ H' = B ++ G) ?_ k.length _ _ ?_
  · rintro m e' H' ⟨j, G, hj, hg, i1, i15, i16, i17, rfl⟩
    cases m with
    | zero =>
      have hj' : j = k.length := by omega
      subst hj'
      rw [List.take_length] at hg
      simp only [f16b0, go_sem, Nat.reduceAdd, Nat.reduceMul, Nat.reduceSub, Nat.reduceBEq, Nat.reduceEqDiff, Nat.reduceLeDiff, Nat.reduceLT, Nat.reduceBneDiff, Int.reduceAdd, Int.cast_ofNat_Int, Int.toNat_natCast, Int.reduceLE, Int.reduceLT, Int.reduceToNat, Int.reduceEq, ↓reduceIte, i15, i16, i17, lt_false]
      exact g _ G (by simp only [go_sem, Nat.reduceAdd, Nat.reduceMul, Nat.reduceSub, Nat.reduceBEq, Nat.reduceEqDiff, Nat.reduceLeDiff, Nat.reduceLT, Nat.reduceBneDiff, Int.reduceAdd, Int.cast_ofNat_Int, Int.toNat_natCast, Int.reduceLE, Int.reduceLT, Int.reduceToNat, Int.reduceEq, ↓reduceIte, i1]) (by simp only [go_sem, Nat.reduceAdd, Nat.reduceMul, Nat.reduceSub, Nat.reduceBEq, Nat.reduceEqDiff, Nat.reduceLeDiff, Nat.reduceLT, Nat.reduceBneDiff, Int.reduceAdd, Int.cast_ofNat_Int, Int.toNat_natCast, Int.reduceLE, Int.reduceLT, Int.reduceToNat, Int.reduceEq, ↓reduceIte]; exact hg)
    | succ m =>
      obtain ⟨r, hr, _⟩ := Go.AM.get_of_lt (show j < k.length by omega)
      obtain ⟨id, ver, q, E⟩ := hu.at (by omega) Rt.len hr
      have d := lt_true (show j < k.length by omega)
      have a1 := wrap_succ (show j < 1000000 by omega)
      have hlk : (rowE (k.take j)).length = j := by unfold rowE; rw [List.length_map, List.length_take]; omega
      have hsn : rowE (k.take (j + 1)) = rowE (k.take j) ++ [En.ofP r.a r.n r.x] := by rw [Go.AM.take_succ_of hr]; unfold rowE; simp
      have he := fun lim H => ev_EOf (hook := hook) (lim := lim) (H := H) r.a r.n r.x
      obtain ⟨v', G', hpu, hg'⟩ := hg.push1 (bytes := 48) (lim := lim) (.rw 0 4 r.c) (En.ofP r.a r.n r.x) rfl hlim (by omega)
      simp only [f16b0, go_sem, Nat.reduceAdd, Nat.reduceMul, Nat.reduceSub, Nat.reduceBEq, Nat.reduceEqDiff, Nat.reduceLeDiff, Nat.reduceLT, Nat.reduceBneDiff, Int.reduceAdd, Int.cast_ofNat_Int, Int.toNat_natCast, Int.reduceLE, Int.reduceLT, Int.reduceToNat, Int.reduceEq, ↓reduceIte, i15, i16, i17, d, a1, E.adr, E.adr', E.cel, E.cel', E.all, E.all', E.part, E.part', E.part0, E.part0', E.one, E.one', E.one0, E.one0', write_endR, cells_end, he, hpu]
      exact ⟨m, by omega, j + 1, G', by omega, by rw [hsn]; exact hg', i1, rfl, rfl⟩
  · exact ⟨0, [], by omega, by rw [e5]; exact Gr.nil, rfl, e15, e16, e17, by simp⟩
theorem ev_Build (v : AV) (l : List Rt) (mode : Int) (hv : Lst Rt.c 4 H v l) (hl : l.length ≤ 12) : ∃ v' L, ev (PX hook) lim 16 [v, .int .i64 mode] H = some (v', H ++ L) ∧ Ow En.c 6 H L v' (buildW l mode) := by
  suffices hs : EV (PX hook) lim 16 [v, .int .i64 mode] H fun v' H' => ∃ L, H' = H ++ L ∧ Ow En.c 6 H L v' (buildW l mode) by
    rw [EV_iff] at hs; obtain ⟨v', H', h1, L, rfl, h2⟩ := hs; exact ⟨v', L, h1, h2⟩
  rw [EV_own _ (PF t16) rfl (by decide)]
  by_cases hbad : mode < 0 ∨ 2 < mode
  · have hm : (decide (0 ≤ mode) && decide (mode ≤ 2)) = false := by
      rcases hbad with h | h
      · have : decide (0 ≤ mode) = false := by rw [decide_eq_false_iff_not]; omega
        rw [this]; rfl
      · have : decide (mode ≤ 2) = false := by rw [decide_eq_false_iff_not]; omega
        rw [this, Bool.and_false]
    have hw : buildW l mode = [] := by unfold buildW; rw [if_pos hbad]
    have hn : finish .slices H.length .nils H = some (.nils, H) := by have := finish_nils H []; rwa [List.append_nil] at this
    simp only [f16, go_sem, Nat.reduceAdd, Nat.reduceMul, Nat.reduceSub, Nat.reduceBEq, Nat.reduceEqDiff, Nat.reduceLeDiff, Nat.reduceLT, Nat.reduceBneDiff, Int.reduceAdd, Int.cast_ofNat_Int, Int.toNat_natCast, Int.reduceLE, Int.reduceLT, Int.reduceToNat, Int.reduceEq, ↓reduceIte, ev_Mode, hm, hn]
    exact ⟨[], by simp, by rw [hw]; exact Gr.nil.ow⟩
  · have hm : (decide (0 ≤ mode) && decide (mode ≤ 2)) = true := by
      rw [Bool.and_eq_true, decide_eq_true_eq, decide_eq_true_eq]; omega
    by_cases m0 : mode = 0
    · have hw : buildW l mode = eSort (rowE l) := by unfold buildW; rw [if_neg hbad, if_neg (by omega), if_pos m0]
      have d1 : (mode != 0) = false := by simp [m0]
      have d2 : (mode == 2) = false := by rw [beq_eq_false_iff_ne]; omega
      have hlen := hv.len'
      rw [hw]
      simp only [f16, go_sem, Nat.reduceAdd, Nat.reduceMul, Nat.reduceSub, Nat.reduceBEq, Nat.reduceEqDiff, Nat.reduceLeDiff, Nat.reduceLT, Nat.reduceBneDiff, Int.reduceAdd, Int.cast_ofNat_Int, Int.toNat_natCast, Int.reduceLE, Int.reduceLT, Int.reduceToNat, Int.reduceEq, ↓reduceIte, ev_Mode, hm, d1, hlen]
      refine build_in v l H (Nat.le_refl _) hv (by omega) (by simp only [go_sem, Nat.reduceAdd, Nat.reduceMul, Nat.reduceSub, Nat.reduceBEq, Nat.reduceEqDiff, Nat.reduceLeDiff, Nat.reduceLT, Nat.reduceBneDiff, Int.reduceAdd, Int.cast_ofNat_Int, Int.toNat_natCast, Int.reduceLE, Int.reduceLT, Int.reduceToNat, Int.reduceEq, ↓reduceIte]) (by simp only [go_sem, Nat.reduceAdd, Nat.reduceMul, Nat.reduceSub, Nat.reduceBEq, Nat.reduceEqDiff, Nat.reduceLeDiff, Nat.reduceLT, Nat.reduceBneDiff, Int.reduceAdd, Int.cast_ofNat_Int, Int.toNat_natCast, Int.reduceLE, Int.reduceLT, Int.reduceToNat, Int.reduceEq, ↓reduceIte]) (by simp only [go_sem, Nat.reduceAdd, Nat.reduceMul, Nat.reduceSub, Nat.reduceBEq, Nat.reduceEqDiff, Nat.reduceLeDiff, Nat.reduceLT, Nat.reduceBneDiff, Int.reduceAdd, Int.cast_ofNat_Int, Int.toNat_natCast, Int.reduceLE, Int.reduceLT, Int.reduceToNat, Int.reduceEq, ↓reduceIte]) (by simp only [go_sem, Nat.reduceAdd, Nat.reduceMul, Nat.reduceSub, Nat.reduceBEq, Nat.reduceEqDiff, Nat.reduceLeDiff, Nat.reduceLT, Nat.reduceBneDiff, Int.reduceAdd, Int.cast_ofNat_Int, Int.toNat_natCast, Int.reduceLE, Int.reduceLT, Int.reduceToNat, Int.reduceEq, ↓reduceIte]) ?_
      intro e' G i1 hg
      simp only [go_sem, Nat.reduceAdd, Nat.reduceMul, Nat.reduceSub, Nat.reduceBEq, Nat.reduceEqDiff, Nat.reduceLeDiff, Nat.reduceLT, Nat.reduceBneDiff, Int.reduceAdd, Int.cast_ofNat_Int, Int.toNat_natCast, Int.reduceLE, Int.reduceLT, Int.reduceToNat, Int.reduceEq, ↓reduceIte] at i1
      obtain ⟨v', L, h1, h2⟩ := ev_Sort (hook := hook) (lim := H.length) (e' 5) (rowE l) hg.lst (by unfold rowE; rw [List.length_map]; exact hl)
      obtain ⟨v'', L', hfin, ho⟩ := h2.keep En.fl
      simp only [List.append_assoc] at h1
      simp only [go_sem, Nat.reduceAdd, Nat.reduceMul, Nat.reduceSub, Nat.reduceBEq, Nat.reduceEqDiff, Nat.reduceLeDiff, Nat.reduceLT, Nat.reduceBneDiff, Int.reduceAdd, Int.cast_ofNat_Int, Int.toNat_natCast, Int.reduceLE, Int.reduceLT, Int.reduceToNat, Int.reduceEq, ↓reduceIte, i1, d2, h1, hfin]
      exact ⟨L', rfl, ho⟩
    · have d1 : (mode != 0) = true := by simp [m0]
      obtain ⟨u, L0, hk, ho⟩ := ev_Keep (hook := hook) (lim := H.length) v l hv (by omega)
      have hkl := keepP_len l
      have hul := ho.lst.len'
      have hrl : (rowE (keepP l)).length ≤ 12 := by unfold rowE; rw [List.length_map]; omega
      by_cases m2 : mode = 2
      · have hw : buildW l mode = mergeW (rowE (keepP l)) := by unfold buildW; rw [if_neg hbad, if_pos m2]
        have d2 : (mode == 2) = true := by simp [m2]
        rw [hw]
        simp only [f16, go_sem, Nat.reduceAdd, Nat.reduceMul, Nat.reduceSub, Nat.reduceBEq, Nat.reduceEqDiff, Nat.reduceLeDiff, Nat.reduceLT, Nat.reduceBneDiff, Int.reduceAdd, Int.cast_ofNat_Int, Int.toNat_natCast, Int.reduceLE, Int.reduceLT, Int.reduceToNat, Int.reduceEq, ↓reduceIte, ev_Mode, hm, d1, hk, hul]
        refine build_in u (keepP l) (H ++ L0) (by simp) ho.lst (by omega) (by simp only [go_sem, Nat.reduceAdd, Nat.reduceMul, Nat.reduceSub, Nat.reduceBEq, Nat.reduceEqDiff, Nat.reduceLeDiff, Nat.reduceLT, Nat.reduceBneDiff, Int.reduceAdd, Int.cast_ofNat_Int, Int.toNat_natCast, Int.reduceLE, Int.reduceLT, Int.reduceToNat, Int.reduceEq, ↓reduceIte]) (by simp only [go_sem, Nat.reduceAdd, Nat.reduceMul, Nat.reduceSub, Nat.reduceBEq, Nat.reduceEqDiff, Nat.reduceLeDiff, Nat.reduceLT, Nat.reduceBneDiff, Int.reduceAdd, Int.cast_ofNat_Int, Int.toNat_natCast, Int.reduceLE, Int.reduceLT, Int.reduceToNat, Int.reduceEq, ↓reduceIte]) (by simp only [go_sem, Nat.reduceAdd, Nat.reduceMul, Nat.reduceSub, Nat.reduceBEq, Nat.reduceEqDiff, Nat.reduceLeDiff, Nat.reduceLT, Nat.reduceBneDiff, Int.reduceAdd, Int.cast_ofNat_Int, Int.toNat_natCast, Int.reduceLE, Int.reduceLT, Int.reduceToNat, Int.reduceEq, ↓reduceIte]) (by simp only [go_sem, Nat.reduceAdd, Nat.reduceMul, Nat.reduceSub, Nat.reduceBEq, Nat.reduceEqDiff, Nat.reduceLeDiff, Nat.reduceLT, Nat.reduceBneDiff, Int.reduceAdd, Int.cast_ofNat_Int, Int.toNat_natCast, Int.reduceLE, Int.reduceLT, Int.reduceToNat, Int.reduceEq, ↓reduceIte]) ?_
        intro e' G i1 hg
        simp only [go_sem, Nat.reduceAdd, Nat.reduceMul, Nat.reduceSub, Nat.reduceBEq, Nat.reduceEqDiff, Nat.reduceLeDiff, Nat.reduceLT, Nat.reduceBneDiff, Int.reduceAdd, Int.cast_ofNat_Int, Int.toNat_natCast, Int.reduceLE, Int.reduceLT, Int.reduceToNat, Int.reduceEq, ↓reduceIte] at i1
        obtain ⟨v', L, h1, h2⟩ := ev_MergeP (hook := hook) (lim := H.length) (e' 5) (rowE (keepP l)) hg.lst hrl
        have h3 := h2.base.base
        obtain ⟨v'', L', hfin, ho2⟩ := h3.keep0 En.fl
        simp only [List.append_assoc] at h1 hfin
        simp only [go_sem, Nat.reduceAdd, Nat.reduceMul, Nat.reduceSub, Nat.reduceBEq, Nat.reduceEqDiff, Nat.reduceLeDiff, Nat.reduceLT, Nat.reduceBneDiff, Int.reduceAdd, Int.cast_ofNat_Int, Int.toNat_natCast, Int.reduceLE, Int.reduceLT, Int.reduceToNat, Int.reduceEq, ↓reduceIte, i1, d2, h1, hfin]
        exact ⟨L', rfl, ho2⟩
      · have hw : buildW l mode = eSort (rowE (keepP l)) := by unfold buildW; rw [if_neg hbad, if_neg m2, if_neg m0]
        have d2 : (mode == 2) = false := by simp [m2]
        rw [hw]
        simp only [f16, go_sem, Nat.reduceAdd, Nat.reduceMul, Nat.reduceSub, Nat.reduceBEq, Nat.reduceEqDiff, Nat.reduceLeDiff, Nat.reduceLT, Nat.reduceBneDiff, Int.reduceAdd, Int.cast_ofNat_Int, Int.toNat_natCast, Int.reduceLE, Int.reduceLT, Int.reduceToNat, Int.reduceEq, ↓reduceIte, ev_Mode, hm, d1, hk, hul]
        refine build_in u (keepP l) (H ++ L0) (by simp) ho.lst (by omega) (by simp only [go_sem, Nat.reduceAdd, Nat.reduceMul, Nat.reduceSub, Nat.reduceBEq, Nat.reduceEqDiff, Nat.reduceLeDiff, Nat.reduceLT, Nat.reduceBneDiff, Int.reduceAdd, Int.cast_ofNat_Int, Int.toNat_natCast, Int.reduceLE, Int.reduceLT, Int.reduceToNat, Int.reduceEq, ↓reduceIte]) (by simp only [go_sem, Nat.reduceAdd, Nat.reduceMul, Nat.reduceSub, Nat.reduceBEq, Nat.reduceEqDiff, Nat.reduceLeDiff, Nat.reduceLT, Nat.reduceBneDiff, Int.reduceAdd, Int.cast_ofNat_Int, Int.toNat_natCast, Int.reduceLE, Int.reduceLT, Int.reduceToNat, Int.reduceEq, ↓reduceIte]) (by simp only [go_sem, Nat.reduceAdd, Nat.reduceMul, Nat.reduceSub, Nat.reduceBEq, Nat.reduceEqDiff, Nat.reduceLeDiff, Nat.reduceLT, Nat.reduceBneDiff, Int.reduceAdd, Int.cast_ofNat_Int, Int.toNat_natCast, Int.reduceLE, Int.reduceLT, Int.reduceToNat, Int.reduceEq, ↓reduceIte]) (by simp only [go_sem, Nat.reduceAdd, Nat.reduceMul, Nat.reduceSub, Nat.reduceBEq, Nat.reduceEqDiff, Nat.reduceLeDiff, Nat.reduceLT, Nat.reduceBneDiff, Int.reduceAdd, Int.cast_ofNat_Int, Int.toNat_natCast, Int.reduceLE, Int.reduceLT, Int.reduceToNat, Int.reduceEq, ↓reduceIte]) ?_
        intro e' G i1 hg
        simp only [go_sem, Nat.reduceAdd, Nat.reduceMul, Nat.reduceSub, Nat.reduceBEq, Nat.reduceEqDiff, Nat.reduceLeDiff, Nat.reduceLT, Nat.reduceBneDiff, Int.reduceAdd, Int.cast_ofNat_Int, Int.toNat_natCast, Int.reduceLE, Int.reduceLT, Int.reduceToNat, Int.reduceEq, ↓reduceIte] at i1
        obtain ⟨v', L, h1, h2⟩ := ev_Sort (hook := hook) (lim := H.length) (e' 5) (rowE (keepP l)) hg.lst hrl
        have h3 := h2.base.base
        obtain ⟨v'', L', hfin, ho2⟩ := h3.keep0 En.fl
        simp only [List.append_assoc] at h1 hfin
        simp only [go_sem, Nat.reduceAdd, Nat.reduceMul, Nat.reduceSub, Nat.reduceBEq, Nat.reduceEqDiff, Nat.reduceLeDiff, Nat.reduceLT, Nat.reduceBneDiff, Int.reduceAdd, Int.cast_ofNat_Int, Int.toNat_natCast, Int.reduceLE, Int.reduceLT, Int.reduceToNat, Int.reduceEq, ↓reduceIte, i1, d2, h1, hfin]
        exact ⟨L', rfl, ho2⟩
end Go.Proofs.Ytafonoekobkcdaa.C
