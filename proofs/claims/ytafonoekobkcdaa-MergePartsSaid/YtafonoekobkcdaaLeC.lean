/- ROWS MERGED: what a row is merged to: the program's. Conditions: the slice shows the entries. -/
import Derived.Test.YtafonoekobkcdaaLeB
set_option linter.unusedVariables false
set_option linter.unusedSimpArgs false
namespace Go.AM
/-- A row without two of its places, told from a number on. -/
def restN (i k : Nat) : Nat → List En → List En
  | _, [] => []
  | j, x :: l => (if j ≠ i ∧ j ≠ k then [x] else []) ++ restN i k (j + 1) l
theorem restN_snoc (i k : Nat) : ∀ (j : Nat) (l : List En) (x : En), restN i k j (l ++ [x]) = restN i k j l ++ (if j + l.length ≠ i ∧ j + l.length ≠ k then [x] else [])
  | j, [], x => by simp [restN]
  | j, y :: l, x => by
    rw [List.cons_append, restN, restN, restN_snoc i k (j + 1) l x, List.append_assoc, List.length_cons, show j + 1 + l.length = j + (l.length + 1) by omega]
theorem restN_le (i k : Nat) : ∀ (j : Nat) (l : List En), (restN i k j l).length ≤ l.length
  | j, [] => by simp [restN]
  | j, y :: l => by
    rw [restN, List.length_append, List.length_cons]
    have := restN_le i k (j + 1) l
    split <;> simp <;> omega
theorem restN_far (i k : Nat) : ∀ (j : Nat) (l : List En), i < j → k < j → (restN i k j l) = l
  | j, [], _, _ => rfl
  | j, y :: l, h1, h2 => by
    rw [restN, restN_far i k (j + 1) l (by omega) (by omega), if_pos ⟨by omega, by omega⟩]; rfl
theorem restN_one (i k : Nat) : ∀ (j : Nat) (l : List En), i < j → j ≤ k → k < j + l.length → (restN i k j l).length + 1 = l.length
  | j, [], _, h, g => by simp at g; omega
  | j, y :: l, h1, h2, h3 => by
    rw [List.length_cons] at h3
    rw [restN, List.length_append, List.length_cons]
    by_cases h : j = k
    · subst h
      rw [if_neg (by omega), restN_far i j (j + 1) l (by omega) (by omega)]; simp
    · rw [if_pos ⟨by omega, h⟩]
      have := restN_one i k (j + 1) l (by omega) (by omega) (by omega)
      simp; omega
theorem restN_two (i k : Nat) : ∀ (j : Nat) (l : List En), j ≤ i → i < k → k < j + l.length → (restN i k j l).length + 2 = l.length
  | j, [], _, h, g => by simp at g; omega
  | j, y :: l, h1, h2, h3 => by
    rw [List.length_cons] at h3
    rw [restN, List.length_append, List.length_cons]
    by_cases h : j = i
    · subst h
      have := restN_one j k (j + 1) l (by omega) (by omega) (by omega)
      rw [if_neg (by omega)]; simp; omega
    · rw [if_pos ⟨h, by omega⟩]
      have := restN_two i k (j + 1) l (by omega) (by omega) (by omega)
      simp; omega
theorem two1_spec {l : List En} {x : En} {kk : Nat} {w : Wd} : ∀ (f k : Nat), two1 l x f k = some (kk, w) → k ≤ kk ∧ ∃ y, l[kk]? = some y ∧ y.n = x.n ∧ y.x = x.x ∧ x.w.merge y.w = some w
  | 0, k, h => by rw [two1] at h; cases h
  | f + 1, k, h => by
    rw [two1] at h
    split at h
    · cases h
    · rename_i y hy
      split at h
      · rename_i hn
        split at h
        · rename_i hx
          split at h
          · rename_i w' hw
            simp only [Option.some.injEq, Prod.mk.injEq] at h
            obtain ⟨rfl, rfl⟩ := h
            exact ⟨Nat.le_refl _, y, hy, hn, hx, hw⟩
          · have := two1_spec f (k + 1) h
            exact ⟨by omega, this.2⟩
        · have := two1_spec f (k + 1) h
          exact ⟨by omega, this.2⟩
      · cases h
theorem twoN_spec {l : List En} {i k : Nat} {w : Wd} : ∀ (f j : Nat), twoN l f j = some (i, k, w) → i < k ∧ ∃ x y, l[i]? = some x ∧ l[k]? = some y ∧ y.n = x.n ∧ y.x = x.x ∧ x.w.merge y.w = some w
  | 0, j, h => by rw [twoN] at h; cases h
  | f + 1, j, h => by
    rw [twoN] at h
    split at h
    · cases h
    · rename_i x hx
      split at h
      · rename_i k' w' hw
        simp only [Option.some.injEq, Prod.mk.injEq] at h
        obtain ⟨rfl, rfl, rfl⟩ := h
        obtain ⟨h1, y, h2, h3, h4, h5⟩ := two1_spec _ _ hw
        exact ⟨by omega, x, y, hx, h2, h3, h4, h5⟩
      · exact twoN_spec f (j + 1) h
/-- The first two merged. -/
def mstep (l : List En) : Option (List En) := match twoW l with
  | none => none
  | some (i, k, w) => some (eSort (restN i k 0 l ++ [⟨w, ((l[i]?).getD En.z).n, ((l[i]?).getD En.z).x⟩]))
theorem mstep_len {l m : List En} (h : mstep l = some m) : m.length + 1 = l.length := by
  unfold mstep at h
  split at h
  · cases h
  · rename_i i k w hw
    simp only [Option.some.injEq] at h
    obtain ⟨h1, x, y, h2, h3, _⟩ := twoN_spec _ _ hw
    have := (List.getElem?_eq_some_iff.1 h3).1
    have := restN_two i k 0 l (Nat.zero_le _) h1 (by omega)
    rw [← h, sort_len, List.length_append]
    simp; omega
def mergeN : Nat → List En → List En
  | 0, l => l
  | f + 1, l => match mstep l with
    | none => l
    | some m => mergeN f m
def mergeW (l : List En) : List En := mergeN l.length (eSort l)
theorem write_endE (B G : Heap) (a b c d f g : AV) (x : En) (lim : Nat) : Heap.write (B ++ (G ++ [Blk.rw 0 6 [a, b, c, d, f, g]])) lim (B.length + G.length) 0 0 x.c = some (B ++ (G ++ [Blk.rw 0 6 x.c])) := by
  unfold Heap.write
  rw [get_end]
  simp only
  rw [if_pos ⟨trivial, by simp [En.c], fun _ => rfl⟩]
  rw [← List.append_assoc, List.set_append_right _ _ (by simp)]
  simp [putCells, En.c]
theorem load_endE (B G : Heap) (x : En) : loadV (B ++ (G ++ [Blk.rw 0 6 x.c])) true 6 (.ptr (B.length + G.length) 0 0) = some (.agg x.c) := by
  simp [loadV, Heap.cells, get_end, Blk.ver, Blk.cells, rdCells, En.c]
theorem Ow.base {α : Type} {c : α → List AV} {sz : Nat} {B G L : Heap} {v : AV} {l : List α} (h : Ow c sz (B ++ G) L v l) : Ow c sz B (G ++ L) v l := by
  rcases h with h | ⟨id, ver, m, h1, h2, h3⟩
  · exact Or.inl h
  · exact Or.inr ⟨id, ver, m, by simp at h1; omega, h2, by rw [← List.append_assoc]; exact h3⟩
end Go.AM
namespace Go.Proofs.Ytafonoekobkcdaa.C
open Go.AM
variable {hook : Nat → Nat → List AV → Heap → Option (AV × Heap)} {lim : Nat} {H : Heap}
theorem rest_in (v : AV) (l : List En) (i k : Nat) (B : Heap) (hlim : lim ≤ B.length) (hv : Lst En.c 6 B v l) (hl : l.length < 1000000) {K : List Frm} {Q : Post} {e : Env}
    (e4 : e 4 = .int .i64 (i : Int)) (e5 : e 5 = .int .i64 (k : Int)) (e8 : e 8 = .nils) (e21 : e 21 = v) (e22 : e 22 = .int .i64 (l.length : Int)) (e23 : e 23 = .int .i64 0)
    (g : ∀ (e' : Env) (G : Heap), e' 3 = e 3 → e' 4 = .int .i64 (i : Int) → e' 6 = e 6 → Gr En.c 6 B G (e' 8) (restN i k 0 l) → ON (PX hook) lim K (.exit 0) e' (B ++ G) Q) :
    GO (PX hook) lim (.loop f11b0) K e B Q := by
  refine GO_loop _ (fun m e' H' => ∃ (j : Nat) (G : Heap), j + m = l.length ∧ Gr En.c 6 B G (e' 8) (restN i k 0 (l.take j)) ∧ e' 3 = e 3 ∧ e' 4 = .int .i64 (i : Int) ∧ e' 5 = .int .i64 (k : Int) ∧ e' 6 = e 6 ∧ e' 21 = v ∧ e' 22 = .int .i64 (l.length : Int) ∧ e' 23 = .int .i64 (j : Int) ∧ H' = B ++ G) ?_ l.length _ _ ?_
  · rintro m e' H' ⟨j, G, hj, hg, j3, j4, j5, j6, j21, j22, j23, rfl⟩
    cases m with
    | zero =>
      have hj' : j = l.length := by omega
      subst hj'
      rw [List.take_length] at hg
      simp only [f11b0, go_sem, Nat.reduceAdd, Nat.reduceMul, Nat.reduceSub, Nat.reduceBEq, Nat.reduceEqDiff, Nat.reduceLeDiff, Nat.reduceLT, Nat.reduceBneDiff, Int.reduceAdd, Int.cast_ofNat_Int, Int.toNat_natCast, Int.reduceLE, Int.reduceLT, Int.reduceToNat, Int.reduceEq, ↓reduceIte, j4, j5, j21, j22, j23, lt_false]
      exact g _ G (by simp only [go_sem, Nat.reduceAdd, Nat.reduceMul, Nat.reduceSub, Nat.reduceBEq, Nat.reduceEqDiff, Nat.reduceLeDiff, Nat.reduceLT, Nat.reduceBneDiff, Int.reduceAdd, Int.cast_ofNat_Int, Int.toNat_natCast, Int.reduceLE, Int.reduceLT, Int.reduceToNat, Int.reduceEq, ↓reduceIte, j3]) (by simp only [go_sem, Nat.reduceAdd, Nat.reduceMul, Nat.reduceSub, Nat.reduceBEq, Nat.reduceEqDiff, Nat.reduceLeDiff, Nat.reduceLT, Nat.reduceBneDiff, Int.reduceAdd, Int.cast_ofNat_Int, Int.toNat_natCast, Int.reduceLE, Int.reduceLT, Int.reduceToNat, Int.reduceEq, ↓reduceIte, j4]) (by simp only [go_sem, Nat.reduceAdd, Nat.reduceMul, Nat.reduceSub, Nat.reduceBEq, Nat.reduceEqDiff, Nat.reduceLeDiff, Nat.reduceLT, Nat.reduceBneDiff, Int.reduceAdd, Int.cast_ofNat_Int, Int.toNat_natCast, Int.reduceLE, Int.reduceLT, Int.reduceToNat, Int.reduceEq, ↓reduceIte, j6]) (by simp only [go_sem, Nat.reduceAdd, Nat.reduceMul, Nat.reduceSub, Nat.reduceBEq, Nat.reduceEqDiff, Nat.reduceLeDiff, Nat.reduceLT, Nat.reduceBneDiff, Int.reduceAdd, Int.cast_ofNat_Int, Int.toNat_natCast, Int.reduceLE, Int.reduceLT, Int.reduceToNat, Int.reduceEq, ↓reduceIte]; exact hg)
    | succ m =>
      obtain ⟨x, hx, _⟩ := get_of_lt (show j < l.length by omega)
      obtain ⟨id, ver, q, E⟩ := hv.at (by omega) En.len hx
      have d := lt_true (show j < l.length by omega)
      have a1 := wrap_succ (show j < 1000000 by omega)
      have hlk : (l.take j).length = j := by rw [List.length_take]; omega
      have hsn := restN_snoc i k 0 (l.take j) x
      rw [← take_succ_of hx, hlk, Nat.zero_add] at hsn
      have hle := restN_le i k 0 (l.take j)
      rw [hlk] at hle
      by_cases h1 : j = i
      · have d1 : ((j : Int) != (i : Int)) = false := by simp [h1]
        rw [if_neg (fun h => h.1 h1), List.append_nil] at hsn
        simp only [f11b0, go_sem, Nat.reduceAdd, Nat.reduceMul, Nat.reduceSub, Nat.reduceBEq, Nat.reduceEqDiff, Nat.reduceLeDiff, Nat.reduceLT, Nat.reduceBneDiff, Int.reduceAdd, Int.cast_ofNat_Int, Int.toNat_natCast, Int.reduceLE, Int.reduceLT, Int.reduceToNat, Int.reduceEq, ↓reduceIte, j4, j5, j21, j22, j23, d, a1, E.adr, E.adr', E.cel, E.cel', E.all, E.all', E.part, E.part', E.part0, E.part0', E.one, E.one', E.one0, E.one0', En.len, En.put, write_endE, load_endE, d1]
        exact ⟨m, by omega, j + 1, _, by omega, by rw [hsn]; exact hg.ext _, j3, j6, rfl, rfl⟩
      · have d1 : ((j : Int) != (i : Int)) = true := by rw [bne_iff_ne]; omega
        by_cases h2 : j = k
        · have d2 : ((j : Int) != (k : Int)) = false := by simp [h2]
          rw [if_neg (fun h => h.2 h2), List.append_nil] at hsn
          simp only [f11b0, go_sem, Nat.reduceAdd, Nat.reduceMul, Nat.reduceSub, Nat.reduceBEq, Nat.reduceEqDiff, Nat.reduceLeDiff, Nat.reduceLT, Nat.reduceBneDiff, Int.reduceAdd, Int.cast_ofNat_Int, Int.toNat_natCast, Int.reduceLE, Int.reduceLT, Int.reduceToNat, Int.reduceEq, ↓reduceIte, j4, j5, j21, j22, j23, d, a1, E.adr, E.adr', E.cel, E.cel', E.all, E.all', E.part, E.part', E.part0, E.part0', E.one, E.one', E.one0, E.one0', En.len, En.put, write_endE, load_endE, d1, d2]
          exact ⟨m, by omega, j + 1, _, by omega, by rw [hsn]; exact hg.ext _, j3, j6, rfl, rfl⟩
        · have d2 : ((j : Int) != (k : Int)) = true := by rw [bne_iff_ne]; omega
          rw [if_pos ⟨h1, h2⟩] at hsn
          obtain ⟨v', G', hpu, hg'⟩ := hg.push1 (bytes := 48) (lim := lim) (Blk.rw 0 6 x.c) x rfl hlim (by omega)
          simp only [f11b0, go_sem, Nat.reduceAdd, Nat.reduceMul, Nat.reduceSub, Nat.reduceBEq, Nat.reduceEqDiff, Nat.reduceLeDiff, Nat.reduceLT, Nat.reduceBneDiff, Int.reduceAdd, Int.cast_ofNat_Int, Int.toNat_natCast, Int.reduceLE, Int.reduceLT, Int.reduceToNat, Int.reduceEq, ↓reduceIte, j4, j5, j21, j22, j23, d, a1, E.adr, E.adr', E.cel, E.cel', E.all, E.all', E.part, E.part', E.part0, E.part0', E.one, E.one', E.one0, E.one0', En.len, En.put, write_endE, load_endE, d1, d2, hpu]
          exact ⟨m, by omega, j + 1, _, by omega, by rw [hsn]; exact hg', j3, j6, rfl, rfl⟩
  · exact ⟨0, [], by omega, by rw [e8]; exact Gr.nil, rfl, e4, e5, rfl, e21, e22, e23, by simp⟩
theorem ev_MergeP (v : AV) (l : List En) (hv : Lst En.c 6 H v l) (hl : l.length ≤ 12) : ∃ v' L, ev (PX hook) lim 11 [v] H = some (v', H ++ L) ∧ Ow En.c 6 H L v' (mergeW l) := by
  suffices hs : EV (PX hook) lim 11 [v] H fun v' H' => ∃ L, H' = H ++ L ∧ Ow En.c 6 H L v' (mergeW l) by
    rw [EV_iff] at hs; obtain ⟨v', H', h1, L, rfl, h2⟩ := hs; exact ⟨v', L, h1, h2⟩
  rw [EV_own _ (PF t11) rfl (by decide)]
  obtain ⟨v1, L1, h1, g1⟩ := ev_Sort (hook := hook) (lim := H.length) v l hv hl
  generalize hR : mergeW l = R
  simp only [f11, go_sem, Nat.reduceAdd, Nat.reduceMul, Nat.reduceSub, Nat.reduceBEq, Nat.reduceEqDiff, Nat.reduceLeDiff, Nat.reduceLT, Nat.reduceBneDiff, Int.reduceAdd, Int.cast_ofNat_Int, Int.toNat_natCast, Int.reduceLE, Int.reduceLT, Int.reduceToNat, Int.reduceEq, ↓reduceIte, h1]
  refine GO_again _ (fun m e H' => ∃ (r : List En) (G : Heap), m = r.length ∧ r.length ≤ 12 ∧ R = mergeN r.length r ∧ Ow En.c 6 H G (e 3) r ∧ H' = H ++ G) ?_ l.length _ _ ?_
  · rintro m e H' ⟨r, G, rfl, hr, hRr, hg, rfl⟩
    have hrl := hg.lst En.len
    have h2 := ev_two (hook := hook) (lim := H.length) (e 3) r hrl (by omega)
    cases hw : twoW r with
    | none =>
      rw [hw] at h2
      simp only [twoV] at h2
      have hRr' : R = r := by
        rw [hRr]
        cases hn : r.length with
        | zero => rfl
        | succ n => rw [mergeN]; unfold mstep; rw [hw]
      obtain ⟨v', L', hfin', ho⟩ := (hg.ext [Blk.rw 0 4 Wd.z.c]).keep0 En.fl
      simp only [f11b1, go_sem, Nat.reduceAdd, Nat.reduceMul, Nat.reduceSub, Nat.reduceBEq, Nat.reduceEqDiff, Nat.reduceLeDiff, Nat.reduceLT, Nat.reduceBneDiff, Int.reduceAdd, Int.cast_ofNat_Int, Int.toNat_natCast, Int.reduceLE, Int.reduceLT, Int.reduceToNat, Int.reduceEq, ↓reduceIte, h2, write_end, load_end, Wd.len, Wd.put, hfin']
      exact ⟨L', rfl, by rw [hRr']; exact ho⟩
    | some t =>
      obtain ⟨i, k, w⟩ := t
      rw [hw] at h2
      simp only [twoV] at h2
      obtain ⟨hik, x, y, hx, hy, _⟩ := twoN_spec _ _ hw
      have hst : mstep r = some (eSort (restN i k 0 r ++ [⟨w, x.n, x.x⟩])) := by unfold mstep; rw [hw]; simp [hx]
      have hml := mstep_len hst
      have hrl' : Lst En.c 6 (H ++ (G ++ [Blk.rw 0 4 w.c])) (e 3) r := by rw [← List.append_assoc]; exact hrl.more _
      have hil := (List.getElem?_eq_some_iff.1 hx).1
      have n3 := hrl'.len'
      simp only [f11b1, go_sem, Nat.reduceAdd, Nat.reduceMul, Nat.reduceSub, Nat.reduceBEq, Nat.reduceEqDiff, Nat.reduceLeDiff, Nat.reduceLT, Nat.reduceBneDiff, Int.reduceAdd, Int.cast_ofNat_Int, Int.toNat_natCast, Int.reduceLE, Int.reduceLT, Int.reduceToNat, Int.reduceEq, ↓reduceIte, h2, write_end, load_end, Wd.len, Wd.put, n3]
      refine rest_in (e 3) r i k _ (by simp) hrl' (by omega) (by simp only [go_sem, Nat.reduceAdd, Nat.reduceMul, Nat.reduceSub, Nat.reduceBEq, Nat.reduceEqDiff, Nat.reduceLeDiff, Nat.reduceLT, Nat.reduceBneDiff, Int.reduceAdd, Int.cast_ofNat_Int, Int.toNat_natCast, Int.reduceLE, Int.reduceLT, Int.reduceToNat, Int.reduceEq, ↓reduceIte]) (by simp only [go_sem, Nat.reduceAdd, Nat.reduceMul, Nat.reduceSub, Nat.reduceBEq, Nat.reduceEqDiff, Nat.reduceLeDiff, Nat.reduceLT, Nat.reduceBneDiff, Int.reduceAdd, Int.cast_ofNat_Int, Int.toNat_natCast, Int.reduceLE, Int.reduceLT, Int.reduceToNat, Int.reduceEq, ↓reduceIte]) (by simp only [go_sem, Nat.reduceAdd, Nat.reduceMul, Nat.reduceSub, Nat.reduceBEq, Nat.reduceEqDiff, Nat.reduceLeDiff, Nat.reduceLT, Nat.reduceBneDiff, Int.reduceAdd, Int.cast_ofNat_Int, Int.toNat_natCast, Int.reduceLE, Int.reduceLT, Int.reduceToNat, Int.reduceEq, ↓reduceIte]) (by simp only [go_sem, Nat.reduceAdd, Nat.reduceMul, Nat.reduceSub, Nat.reduceBEq, Nat.reduceEqDiff, Nat.reduceLeDiff, Nat.reduceLT, Nat.reduceBneDiff, Int.reduceAdd, Int.cast_ofNat_Int, Int.toNat_natCast, Int.reduceLE, Int.reduceLT, Int.reduceToNat, Int.reduceEq, ↓reduceIte]) (by simp only [go_sem, Nat.reduceAdd, Nat.reduceMul, Nat.reduceSub, Nat.reduceBEq, Nat.reduceEqDiff, Nat.reduceLeDiff, Nat.reduceLT, Nat.reduceBneDiff, Int.reduceAdd, Int.cast_ofNat_Int, Int.toNat_natCast, Int.reduceLE, Int.reduceLT, Int.reduceToNat, Int.reduceEq, ↓reduceIte]) (by simp only [go_sem, Nat.reduceAdd, Nat.reduceMul, Nat.reduceSub, Nat.reduceBEq, Nat.reduceEqDiff, Nat.reduceLeDiff, Nat.reduceLT, Nat.reduceBneDiff, Int.reduceAdd, Int.cast_ofNat_Int, Int.toNat_natCast, Int.reduceLE, Int.reduceLT, Int.reduceToNat, Int.reduceEq, ↓reduceIte]) ?_
      intro e' G' j3 j4 j6 j8
      obtain ⟨id, ver, q, E⟩ := hrl'.at (by omega) En.len hx
      have hx1 : ∀ L, loadV ((H ++ (G ++ [Blk.rw 0 4 w.c])) ++ L) true 4 (.ptr (H.length + G.length) 0 0) = some (.agg w.c) := by
        intro L
        have := cells_at (H ++ G) L (Blk.rw 0 4 w.c) (H.length + G.length) (by simp)
        simp only [Blk.ver, Blk.cells, List.append_assoc] at this
        simp only [List.append_assoc, List.cons_append, List.nil_append, loadV, this, rdCells, if_true, Wd.len]
        simp [Wd.c]
      obtain ⟨v3, L3, hpu, g3⟩ := j8.push0 (bytes := 48) (lim := H.length) (⟨w, x.n, x.x⟩ : En) rfl (by simp) (by have := restN_le i k 0 r; omega)
      have hl3 := g3.lst
      obtain ⟨v4, L4, h4, g4⟩ := ev_Sort (hook := hook) (lim := H.length) v3 _ hl3 (by rw [List.length_append]; have := restN_two i k 0 r (Nat.zero_le _) hik (by have := (List.getElem?_eq_some_iff.1 hy).1; omega); simp; omega)
      have hew : En.c ⟨w, x.n, x.x⟩ = [u64 (hi w.v), u64 (lo w.v), u64 (hi w.m), u64 (lo w.m), .int .i64 x.n, .int .i64 x.x] := rfl
      have hfill : fillV [u64 0#64, u64 0#64, u64 0#64, u64 0#64, .int .i64 0, .int .i64 0] [(0, 4, .agg w.c), (4, 1, .int .i64 x.n), (5, 1, .int .i64 x.x)] = some (En.c ⟨w, x.n, x.x⟩) := by simp only [go_sem, Nat.reduceAdd, Nat.reduceMul, Nat.reduceSub, Nat.reduceBEq, Nat.reduceEqDiff, Nat.reduceLeDiff, Nat.reduceLT, Nat.reduceBneDiff, Int.reduceAdd, Int.cast_ofNat_Int, Int.toNat_natCast, Int.reduceLE, Int.reduceLT, Int.reduceToNat, Int.reduceEq, ↓reduceIte, Wd.c, En.c]
      simp only [List.append_assoc, List.cons_append, List.nil_append, List.length_append, List.length_cons, List.length_nil, Nat.zero_add, show H.length + (G.length + 1) + G'.length = H.length + (G.length + (G'.length + 1)) by omega] at hx1 hpu h4
      simp only [go_sem, Nat.reduceAdd, Nat.reduceMul, Nat.reduceSub, Nat.reduceBEq, Nat.reduceEqDiff, Nat.reduceLeDiff, Nat.reduceLT, Nat.reduceBneDiff, Int.reduceAdd, Int.cast_ofNat_Int, Int.toNat_natCast, Int.reduceLE, Int.reduceLT, Int.reduceToNat, Int.reduceEq, ↓reduceIte] at j3 j6
      have ea : iaddrSV (H ++ (G ++ Blk.rw 0 4 w.c :: G')) 6 (e 3) (.int .i64 (i : Int)) = some (.ptr id ver q) := by
        have := E.adr G'
        simpa only [List.append_assoc, List.cons_append, List.nil_append] using this
      have ec : (Heap.cells (H ++ (G ++ Blk.rw 0 4 w.c :: G')) id ver).isSome = true := by
        have := E.cel G'
        simpa only [List.append_assoc, List.cons_append, List.nil_append] using this
      have en : loadV (H ++ (G ++ Blk.rw 0 4 w.c :: G')) false 1 (.ptr id ver (q + 4)) = some (.int .i64 x.n) := by
        have := E.one G' 4 (by omega)
        simpa only [List.append_assoc, List.cons_append, List.nil_append, En.get4] using this
      have ex' : loadV (H ++ (G ++ Blk.rw 0 4 w.c :: G')) false 1 (.ptr id ver (q + 5)) = some (.int .i64 x.x) := by
        have := E.one G' 5 (by omega)
        simpa only [List.append_assoc, List.cons_append, List.nil_append, En.get5] using this
      simp only [go_sem, Nat.reduceAdd, Nat.reduceMul, Nat.reduceSub, Nat.reduceBEq, Nat.reduceEqDiff, Nat.reduceLeDiff, Nat.reduceLT, Nat.reduceBneDiff, Int.reduceAdd, Int.cast_ofNat_Int, Int.toNat_natCast, Int.reduceLE, Int.reduceLT, Int.reduceToNat, Int.reduceEq, ↓reduceIte, j3, j4, j6, hx1, ea, ec, en, ex', hfill, hpu, h4]
      have g5 : Ow En.c 6 H (G ++ (Blk.rw 0 4 w.c :: (L3 ++ L4))) v4 (eSort (restN i k 0 r ++ [⟨w, x.n, x.x⟩])) := by
        have := g4.base.base
        simpa only [List.append_assoc, List.cons_append, List.nil_append] using this
      refine ⟨(eSort (restN i k 0 r ++ [⟨w, x.n, x.x⟩])).length, by omega, eSort (restN i k 0 r ++ [⟨w, x.n, x.x⟩]), G ++ (Blk.rw 0 4 w.c :: (L3 ++ L4)), rfl, by omega, ?_, g5, rfl⟩
      rw [hRr, ← hml, mergeN, hst]
  · exact ⟨eSort l, L1, (sort_len l).symm, by rw [sort_len]; exact hl, by rw [← hR]; unfold mergeW; rw [sort_len], by simp only [go_sem, Nat.reduceAdd, Nat.reduceMul, Nat.reduceSub, Nat.reduceBEq, Nat.reduceEqDiff, Nat.reduceLeDiff, Nat.reduceLT, Nat.reduceBneDiff, Int.reduceAdd, Int.cast_ofNat_Int, Int.toNat_natCast, Int.reduceLE, Int.reduceLT, Int.reduceToNat, Int.reduceEq, ↓reduceIte]; exact g1, rfl⟩
end Go.Proofs.Ytafonoekobkcdaa.C
