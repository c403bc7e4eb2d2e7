/- SLOTS: what is found, what is told, what writes make of them; plan.each, twins. Conditions: the slices show what is told. -/
import Derived.Test.YtmjanbhmpbhagaaLcC
set_option linter.unusedVariables false
set_option linter.unusedSimpArgs false
namespace Go.AM
section
variable {α : Type}
/-- Where the first one is for which something holds; below 0: there is none. -/
def fIdx (p : α → Bool) : Nat → List α → Int
  | _, [] => -1
  | k, x :: l => if p x then (k : Int) else fIdx p (k + 1) l
theorem fIdx_cases (p : α → Bool) (k : Nat) (l : List α) : (fIdx p k l = -1 ∧ l.find? p = none ∧ ∀ x ∈ l, p x = false) ∨ ∃ j x, fIdx p k l = ((k + j : Nat) : Int) ∧ l[j]? = some x ∧ l.find? p = some x ∧ p x = true ∧ ∀ i y, i < j → l[i]? = some y → p y = false := by
  induction l generalizing k with
  | nil => exact Or.inl ⟨rfl, rfl, fun x h => by cases h⟩
  | cons s l ih =>
    cases h : p s
    · rcases ih (k + 1) with ⟨h1, h2, h3⟩ | ⟨j, x, h1, h2, h3, h4, h5⟩
      · refine Or.inl ⟨by rw [fIdx, h]; exact h1, by rw [List.find?_cons, h]; exact h2, fun x hx => ?_⟩
        rcases List.mem_cons.1 hx with rfl | hx
        · exact h
        · exact h3 x hx
      · refine Or.inr ⟨j + 1, x, by rw [fIdx, h]; simpa [Nat.add_assoc, Nat.add_comm, Nat.add_left_comm] using h1, h2, by rw [List.find?_cons, h]; exact h3, h4, fun i y hi hy => ?_⟩
        cases i with
        | zero => simp at hy; subst hy; exact h
        | succ i => exact h5 i y (by omega) hy
    · exact Or.inr ⟨0, s, by rw [fIdx, h]; rfl, rfl, by rw [List.find?_cons, h], h, fun i y hi => by omega⟩
end
def tells (l : List Sl) (a : Adr) : Int := match l.find? (fun s => s.ok && s.e.w.matches a) with
  | some s => s.e.x
  | none => 0
def applyW (l : List Sl) (w : List Wr) : List Sl := w.foldl (fun out x => if mayW x (out.length : Int) then out.set x.k.toNat x.s else out) l
theorem applyW_len (l : List Sl) (w : List Wr) : (applyW l w).length = l.length := by
  unfold applyW
  induction w generalizing l with
  | nil => rfl
  | cons x w ih =>
    rw [List.foldl_cons, ih]
    split
    · rw [List.length_set]
    · rfl
theorem applyW_snoc (l : List Sl) (w : List Wr) (x : Wr) : applyW l (w ++ [x]) = if mayW x ((applyW l w).length : Int) then (applyW l w).set x.k.toNat x.s else applyW l w := by
  unfold applyW; rw [List.foldl_append]; rfl
/-- Both are valid and alike. -/
def twin (s y : Sl) : Bool := s.ok && (y.ok && s.e.alike y.e)
def twinsW : List Sl → List Sl → List Wr
  | _, [] => []
  | pre, s :: l => (if pre.any (twin s) then [⟨(pre.length : Int), Sl.z⟩] else []) ++ twinsW (pre ++ [s]) l
theorem twinsW_snoc (pre l : List Sl) (x : Sl) : twinsW pre (l ++ [x]) = twinsW pre l ++ (if (pre ++ l).any (twin x) then [⟨((pre ++ l).length : Int), Sl.z⟩] else []) := by
  induction l generalizing pre with
  | nil => simp [twinsW]
  | cons s l ih => rw [List.cons_append, twinsW, twinsW, ih, List.append_assoc, List.append_assoc]; rfl
theorem twinsW_le (pre l : List Sl) : (twinsW pre l).length ≤ l.length := by
  induction l generalizing pre with
  | nil => simp [twinsW]
  | cons s l ih =>
    rw [twinsW, List.length_append, List.length_cons]
    have := ih (pre ++ [s])
    split <;> simp <;> omega
end Go.AM
namespace Go.Proofs.Ytmjanbhmpbhagaa.C
open Go.AM
variable {hook : Nat → Nat → List AV → Heap → Option (AV × Heap)} {lim : Nat} {H : Heap}
theorem ev_IndexS (v : AV) (l : List Sl) (g : Nat) (caps : List AV) (p : Sl → Bool) (hv : Lst Sl.c 7 H v l) (hl : l.length < 1000000) (hp : ∀ x : Sl, ev (PX hook) H.length g (.agg x.c :: caps) H = some (.bool (p x), H)) :
    ev (PX hook) lim 84 [v, .fn g caps] H = some (.int .i64 (fIdx p 0 l), H) := by
  refine ev_own _ (PF t84) rfl (by decide) ?_
  have hlen := hv.len'
  simp only [f84, go_sem, Nat.reduceAdd, Nat.reduceMul, Nat.reduceSub, Nat.reduceBEq, Nat.reduceEqDiff, Nat.reduceLeDiff, Nat.reduceLT, Nat.reduceBneDiff, Int.reduceAdd, Int.cast_ofNat_Int, Int.toNat_natCast, Int.reduceLE, Int.reduceLT, Int.reduceToNat, Int.reduceEq, ↓reduceIte, hlen]
  refine GO_loop _ (fun m e H' => ∃ k : Nat, k + m = l.length ∧ fIdx p 0 l = fIdx p k (l.drop k) ∧ e 0 = v ∧ e 1 = .fn g caps ∧ e 7 = .int .i64 (l.length : Int) ∧ e 8 = .int .i64 (k : Int) ∧ H' = H) ?_ l.length _ _ ?_
  · rintro m e H' ⟨k, hk, hf, i0, i1, i7, i8, rfl⟩
    cases m with
    | zero =>
      have hk' : k = l.length := by omega
      subst hk'
      rw [List.drop_of_length_le (Nat.le_refl _)] at hf
      simp only [f84b0, go_sem, Nat.reduceAdd, Nat.reduceMul, Nat.reduceSub, Nat.reduceBEq, Nat.reduceEqDiff, Nat.reduceLeDiff, Nat.reduceLT, Nat.reduceBneDiff, Int.reduceAdd, Int.cast_ofNat_Int, Int.toNat_natCast, Int.reduceLE, Int.reduceLT, Int.reduceToNat, Int.reduceEq, ↓reduceIte, i0, i1, i7, i8, lt_false, hf, fIdx]
    | succ m =>
      obtain ⟨x, hx, hd⟩ := get_of_lt (show k < l.length by omega)
      obtain ⟨id, ver, q, E⟩ := hv.at (by omega) Sl.len hx
      have d := lt_true (show k < l.length by omega)
      have a1 := wrap_succ (show k < 1000000 by omega)
      have hpx := hp x
      rw [hd, fIdx] at hf
      cases hb : p x
      · rw [hb] at hpx hf
        simp only [f84b0, go_sem, Nat.reduceAdd, Nat.reduceMul, Nat.reduceSub, Nat.reduceBEq, Nat.reduceEqDiff, Nat.reduceLeDiff, Nat.reduceLT, Nat.reduceBneDiff, Int.reduceAdd, Int.cast_ofNat_Int, Int.toNat_natCast, Int.reduceLE, Int.reduceLT, Int.reduceToNat, Int.reduceEq, ↓reduceIte, i0, i1, i7, i8, d, a1, E.adr, E.adr', E.cel, E.cel', E.all, E.all', E.part, E.part', E.part0, E.part0', E.one, E.one', E.one0, E.one0', hpx]
        exact ⟨m, by omega, k + 1, by omega, hf, rfl⟩
      · rw [hb] at hpx hf
        simp only [f84b0, go_sem, Nat.reduceAdd, Nat.reduceMul, Nat.reduceSub, Nat.reduceBEq, Nat.reduceEqDiff, Nat.reduceLeDiff, Nat.reduceLT, Nat.reduceBneDiff, Int.reduceAdd, Int.cast_ofNat_Int, Int.toNat_natCast, Int.reduceLE, Int.reduceLT, Int.reduceToNat, Int.reduceEq, ↓reduceIte, i0, i1, i7, i8, d, a1, E.adr, E.adr', E.cel, E.cel', E.all, E.all', E.part, E.part', E.part0, E.part0', E.one, E.one', E.one0, E.one0', hpx]
        rw [hf]; simp
  · exact ⟨0, by omega, rfl, by simp only [go_sem, Nat.reduceAdd, Nat.reduceMul, Nat.reduceSub, Nat.reduceBEq, Nat.reduceEqDiff, Nat.reduceLeDiff, Nat.reduceLT, Nat.reduceBneDiff, Int.reduceAdd, Int.cast_ofNat_Int, Int.toNat_natCast, Int.reduceLE, Int.reduceLT, Int.reduceToNat, Int.reduceEq, ↓reduceIte], by simp only [go_sem, Nat.reduceAdd, Nat.reduceMul, Nat.reduceSub, Nat.reduceBEq, Nat.reduceEqDiff, Nat.reduceLeDiff, Nat.reduceLT, Nat.reduceBneDiff, Int.reduceAdd, Int.cast_ofNat_Int, Int.toNat_natCast, Int.reduceLE, Int.reduceLT, Int.reduceToNat, Int.reduceEq, ↓reduceIte], by simp only [go_sem, Nat.reduceAdd, Nat.reduceMul, Nat.reduceSub, Nat.reduceBEq, Nat.reduceEqDiff, Nat.reduceLeDiff, Nat.reduceLT, Nat.reduceBneDiff, Int.reduceAdd, Int.cast_ofNat_Int, Int.toNat_natCast, Int.reduceLE, Int.reduceLT, Int.reduceToNat, Int.reduceEq, ↓reduceIte], by simp only [go_sem, Nat.reduceAdd, Nat.reduceMul, Nat.reduceSub, Nat.reduceBEq, Nat.reduceEqDiff, Nat.reduceLeDiff, Nat.reduceLT, Nat.reduceBneDiff, Int.reduceAdd, Int.cast_ofNat_Int, Int.toNat_natCast, Int.reduceLE, Int.reduceLT, Int.reduceToNat, Int.reduceEq, ↓reduceIte], rfl⟩
theorem ev_found1 (s : Sl) (a : Adr) (id ver o : Nat) (hb : ∀ L, loadV (H ++ L) true 2 (.ptr id ver o) = some (.agg [u64 (hi a), u64 (lo a)])) : ev (PX hook) lim 85 [.agg s.c, .ptr id ver o] H = some (.bool (s.ok && s.e.w.matches a), H) := by
  refine ev_own _ (PF t85) rfl (by decide) ?_
  cases h : s.ok <;> simp only [f85, go_sem, Nat.reduceAdd, Nat.reduceMul, Nat.reduceSub, Nat.reduceBEq, Nat.reduceEqDiff, Nat.reduceLeDiff, Nat.reduceLT, Nat.reduceBneDiff, Int.reduceAdd, Int.cast_ofNat_Int, Int.toNat_natCast, Int.reduceLE, Int.reduceLT, Int.reduceToNat, Int.reduceEq, ↓reduceIte, h, hb, ev_WMatch]
theorem ev_found (v : AV) (l : List Sl) (a : Adr) (hv : Lst Sl.c 7 H v l) (hl : l.length < 1000000) : ev (PX hook) lim 58 [v, .agg [u64 (hi a), u64 (lo a)]] H = some (.int .i64 (fIdx (fun s => s.ok && s.e.w.matches a) 0 l), H) := by
  refine ev_own _ (PF t58) rfl (by decide) ?_
  have h := ev_IndexS (hook := hook) (lim := H.length) v l 85 [.ptr H.length 0 0] (fun s => s.ok && s.e.w.matches a) (hv.more [.rw 0 2 [u64 (hi a), u64 (lo a)]]) hl (fun x => ev_found1 x a _ _ _ (fun L => by simp only [go_sem, Nat.reduceAdd, Nat.reduceMul, Nat.reduceSub, Nat.reduceBEq, Nat.reduceEqDiff, Nat.reduceLeDiff, Nat.reduceLT, Nat.reduceBneDiff, Int.reduceAdd, Int.cast_ofNat_Int, Int.toNat_natCast, Int.reduceLE, Int.reduceLT, Int.reduceToNat, Int.reduceEq, ↓reduceIte]))
  simp only [f58, go_sem, Nat.reduceAdd, Nat.reduceMul, Nat.reduceSub, Nat.reduceBEq, Nat.reduceEqDiff, Nat.reduceLeDiff, Nat.reduceLT, Nat.reduceBneDiff, Int.reduceAdd, Int.cast_ofNat_Int, Int.toNat_natCast, Int.reduceLE, Int.reduceLT, Int.reduceToNat, Int.reduceEq, ↓reduceIte, h]
theorem ev_bankTell (v : AV) (l : List Sl) (a : Adr) (hv : Lst Sl.c 7 H v l) (hl : l.length < 1000000) : ev (PX hook) lim 29 [v, .agg [u64 (hi a), u64 (lo a)]] H = some (.int .i64 (tells l a), H) := by
  refine ev_own _ (PF t29) rfl (by decide) ?_
  have h := ev_found (hook := hook) (lim := H.length) v l a (hv.more [.rw 0 2 [u64 (hi a), u64 (lo a)]]) hl
  unfold tells
  rcases fIdx_cases (fun s => s.ok && s.e.w.matches a) 0 l with ⟨h1, h2, h3⟩ | ⟨j, x, h1, h2, h3, h4, h5⟩
  · have d : decide ((-1 : Int) < 0) = true := rfl
    rw [h1] at h
    simp only [f29, go_sem, Nat.reduceAdd, Nat.reduceMul, Nat.reduceSub, Nat.reduceBEq, Nat.reduceEqDiff, Nat.reduceLeDiff, Nat.reduceLT, Nat.reduceBneDiff, Int.reduceAdd, Int.cast_ofNat_Int, Int.toNat_natCast, Int.reduceLE, Int.reduceLT, Int.reduceToNat, Int.reduceEq, ↓reduceIte, h, d, h2]
  · rw [h1, Nat.zero_add] at h
    have d : decide (((j : Nat) : Int) < 0) = false := by rw [decide_eq_false_iff_not]; omega
    obtain ⟨id, ver, q, E⟩ := hv.at (by omega) Sl.len h2
    have e := E.one [.rw 0 2 [u64 (hi a), u64 (lo a)]] 6 (by omega)
    simp only [f29, go_sem, Nat.reduceAdd, Nat.reduceMul, Nat.reduceSub, Nat.reduceBEq, Nat.reduceEqDiff, Nat.reduceLeDiff, Nat.reduceLT, Nat.reduceBneDiff, Int.reduceAdd, Int.cast_ofNat_Int, Int.toNat_natCast, Int.reduceLE, Int.reduceLT, Int.reduceToNat, Int.reduceEq, ↓reduceIte, h, d, E.adr, E.adr', E.cel, E.cel', E.all, E.all', E.part, E.part', E.part0, E.part0', E.one, E.one', E.one0, E.one0', h3, Nat.add_assoc]
theorem ev_CloneS (v : AV) (l : List Sl) (hv : Lst Sl.c 7 H v l) (hl : l.length < 1000000) : ∃ v' L, ev (PX hook) lim 56 [v] H = some (v', H ++ L) ∧ Ow Sl.c 7 H L v' l := by
  suffices hs : EV (PX hook) lim 56 [v] H fun v' H' => ∃ L, H' = H ++ L ∧ Ow Sl.c 7 H L v' l by
    rw [EV_iff] at hs; obtain ⟨v', H', h1, L, rfl, h2⟩ := hs; exact ⟨v', L, h1, h2⟩
  rw [EV_own _ (PF t56) rfl (by decide)]
  have hcl := cat_length Sl.len l
  have hsl := hv.slen
  have hsrc := hv.src [.rw 0 7 []]
  rcases hv with ⟨rfl, rfl⟩ | ⟨id, ver, off, m, cs, rfl, h2, h3, h4, h5⟩
  · have hn : nileqV H .slice .nils .nils = some true := rfl
    simp only [f56, go_sem, Nat.reduceAdd, Nat.reduceMul, Nat.reduceSub, Nat.reduceBEq, Nat.reduceEqDiff, Nat.reduceLeDiff, Nat.reduceLT, Nat.reduceBneDiff, Int.reduceAdd, Int.cast_ofNat_Int, Int.toNat_natCast, Int.reduceLE, Int.reduceLT, Int.reduceToNat, Int.reduceEq, ↓reduceIte, hn]
    exact ⟨[], by simp, Or.inl ⟨rfl, rfl⟩⟩
  · have hn : nileqV H .slice (.sl id ver off l.length m) .nils = some false := by
      show (if (H.cells id ver).isSome = true then some false else none) = some false
      rw [h2]; rfl
    by_cases hz : l.length = 0
    · have hl0 : l = [] := List.eq_nil_of_length_eq_zero hz
      subst hl0
      have ha : appendV (H ++ [Blk.rw 0 7 []]) H.length 7 56 (.sl H.length 0 0 0 true) (.sl id ver off 0 m) = some (.sl H.length 0 0 0 true, H ++ [Blk.rw 0 7 []]) := by
        have hs0 : srcCells (H ++ [Blk.rw 0 7 []]) 7 0 (.sl id ver off 0 m) = some [] := hsrc
        have hs1 : srcCells (H ++ [Blk.rw 0 7 []]) 7 0 (.sl H.length 0 0 0 true) = some [] := by simp [srcCells, Heap.cells_tl0, Heap.cells_zero_rw]
        simp only [appendV, AV.slen, hs0, hs1]
        rfl
      have how : Ow Sl.c 7 H [Blk.rw 0 7 []] (.sl H.length 0 0 0 true) [] := Or.inr ⟨H.length, 0, true, Nat.le_refl _, rfl, by simp [cat]⟩
      obtain ⟨v', L', hfin, ho⟩ := how.keep0 Sl.fl
      simp only [List.length_nil] at hn
      simp only [f56, go_sem, Nat.reduceAdd, Nat.reduceMul, Nat.reduceSub, Nat.reduceBEq, Nat.reduceEqDiff, Nat.reduceLeDiff, Nat.reduceLT, Nat.reduceBneDiff, Int.reduceAdd, Int.cast_ofNat_Int, Int.toNat_natCast, Int.reduceLE, Int.reduceLT, Int.reduceToNat, Int.reduceEq, ↓reduceIte, hn, ha, hfin]
      exact ⟨L', rfl, ho⟩
    · have ha : appendV (H ++ [Blk.rw 0 7 []]) H.length 7 56 (.sl H.length 0 0 0 true) (.sl id ver off l.length m) = some (.sl (H.length + 1) 0 0 l.length false, H ++ [Blk.rw 0 7 [], .rw 0 7 (cat Sl.c l)]) := by
        simp only [appendV, hsl, hsrc]
        have hb : (0 + l.length) * 56 ≤ 140737488355328 := by omega
        rw [show srcCells (H ++ [Blk.rw 0 7 []]) 7 0 (.sl H.length 0 0 0 true) = some [] by simp [srcCells, Heap.cells_tl0, Heap.cells_zero_rw]]
        simp [hb, hz]
        omega
      have how : Ow Sl.c 7 H [Blk.rw 0 7 [], .rw 0 7 (cat Sl.c l)] (.sl (H.length + 1) 0 0 l.length false) l := Or.inr ⟨H.length + 1, 0, false, by omega, rfl, by rw [List.getElem?_append_right (by omega), Nat.add_sub_cancel_left]; rfl⟩
      obtain ⟨v', L', hfin, ho⟩ := how.keep0 Sl.fl
      simp only [f56, go_sem, Nat.reduceAdd, Nat.reduceMul, Nat.reduceSub, Nat.reduceBEq, Nat.reduceEqDiff, Nat.reduceLeDiff, Nat.reduceLT, Nat.reduceBneDiff, Int.reduceAdd, Int.cast_ofNat_Int, Int.toNat_natCast, Int.reduceLE, Int.reduceLT, Int.reduceToNat, Int.reduceEq, ↓reduceIte, hn, ha, hfin]
      exact ⟨L', rfl, ho⟩
theorem ev_Apply (v u : AV) (l : List Sl) (w : List Wr) (hv : Lst Sl.c 7 H v l) (hu : Lst Wr.c 8 H u w) (hl : l.length < 1000000) (hw : w.length < 1000000) : ∃ v' L, ev (PX hook) lim 25 [v, u] H = some (v', H ++ L) ∧ Ow Sl.c 7 H L v' (applyW l w) := by
  suffices hs : EV (PX hook) lim 25 [v, u] H fun v' H' => ∃ L, H' = H ++ L ∧ Ow Sl.c 7 H L v' (applyW l w) by
    rw [EV_iff] at hs; obtain ⟨v', H', h1, L, rfl, h2⟩ := hs; exact ⟨v', L, h1, h2⟩
  rw [EV_own _ (PF t25) rfl (by decide)]
  obtain ⟨vc, L0, hcl, how⟩ := ev_CloneS (hook := hook) (lim := H.length) v l hv hl
  have hlen := hu.len
  simp only [f25, go_sem, Nat.reduceAdd, Nat.reduceMul, Nat.reduceSub, Nat.reduceBEq, Nat.reduceEqDiff, Nat.reduceLeDiff, Nat.reduceLT, Nat.reduceBneDiff, Int.reduceAdd, Int.cast_ofNat_Int, Int.toNat_natCast, Int.reduceLE, Int.reduceLT, Int.reduceToNat, Int.reduceEq, ↓reduceIte, hcl, hlen]
  refine GO_loop _ (fun m e H' => ∃ (k : Nat) (G : Heap), k + m = w.length ∧ Ow Sl.c 7 H G (e 5) (applyW l (w.take k)) ∧ e 10 = u ∧ e 11 = .int .i64 (w.length : Int) ∧ e 12 = .int .i64 (k : Int) ∧ H' = H ++ G) ?_ w.length _ _ ?_
  · rintro m e H' ⟨k, G, hk, hg, i10, i11, i12, rfl⟩
    cases m with
    | zero =>
      have hk' : k = w.length := by omega
      subst hk'
      rw [List.take_length] at hg
      obtain ⟨v', L', hfin, hsh⟩ := hg.keep0 Sl.fl
      simp only [f25b0, go_sem, Nat.reduceAdd, Nat.reduceMul, Nat.reduceSub, Nat.reduceBEq, Nat.reduceEqDiff, Nat.reduceLeDiff, Nat.reduceLT, Nat.reduceBneDiff, Int.reduceAdd, Int.cast_ofNat_Int, Int.toNat_natCast, Int.reduceLE, Int.reduceLT, Int.reduceToNat, Int.reduceEq, ↓reduceIte, i10, i11, i12, lt_false, hfin]
      exact ⟨L', rfl, hsh⟩
    | succ m =>
      obtain ⟨x, hx, _⟩ := get_of_lt (show k < w.length by omega)
      obtain ⟨id, ver, p, E⟩ := hu.at (by omega) Wr.len hx
      have d := lt_true (show k < w.length by omega)
      have a1 := wrap_succ (show k < 1000000 by omega)
      have hal := applyW_len l (w.take k)
      have hsn := applyW_snoc l (w.take k) x
      have hlen5 := (hg.ext [.rw 0 8 x.c]).lst Sl.len
      have hlen5' := hlen5.len'
      cases hok : mayW x ((applyW l (w.take k)).length : Int)
      · simp only [hok, Bool.false_eq_true, if_false] at hsn
        simp only [f25b0, go_sem, Nat.reduceAdd, Nat.reduceMul, Nat.reduceSub, Nat.reduceBEq, Nat.reduceEqDiff, Nat.reduceLeDiff, Nat.reduceLT, Nat.reduceBneDiff, Int.reduceAdd, Int.cast_ofNat_Int, Int.toNat_natCast, Int.reduceLE, Int.reduceLT, Int.reduceToNat, Int.reduceEq, ↓reduceIte, i10, i11, i12, d, a1, E.adr, E.adr', E.cel, E.cel', E.all, E.all', E.part, E.part', E.part0, E.part0', E.one, E.one', E.one0, E.one0', ev_May, hlen5', hok]
        exact ⟨m, by omega, k + 1, G ++ [.rw 0 8 x.c], by omega, by rw [take_succ_of hx, hsn]; exact hg.ext _, rfl, rfl⟩
      · simp only [hok, if_true] at hsn
        have hkk : 0 ≤ x.k ∧ x.k < ((applyW l (w.take k)).length : Int) := by
          have h := hok
          unfold mayW at h
          simp only [Bool.and_eq_true, decide_eq_true_eq] at h
          exact ⟨h.1, h.2.1⟩
        obtain ⟨n, hn⟩ : ∃ n : Nat, x.k = (n : Int) := ⟨x.k.toNat, by omega⟩
        have hxc : x.c[0]? = some (.int .i64 (n : Int)) := by rw [Wr.get0, hn]
        rw [hn] at hsn
        obtain ⟨jd, wer, q, G', s1, s2, s3, s4⟩ := hg.set (lim := H.length) Sl.len (k := n) (by omega) x.s (Nat.le_refl _)
        simp only [f25b0, go_sem, Nat.reduceAdd, Nat.reduceMul, Nat.reduceSub, Nat.reduceBEq, Nat.reduceEqDiff, Nat.reduceLeDiff, Nat.reduceLT, Nat.reduceBneDiff, Int.reduceAdd, Int.cast_ofNat_Int, Int.toNat_natCast, Int.reduceLE, Int.reduceLT, Int.reduceToNat, Int.reduceEq, ↓reduceIte, i10, i11, i12, d, a1, E.adr, E.adr', E.cel, E.cel', E.all, E.all', E.part, E.part', E.part0, E.part0', E.one, E.one', E.one0, E.one0', ev_May, hlen5', hok, hn, s1, s2]
        exact ⟨m, by omega, k + 1, G' ++ [.rw 0 8 x.c], by omega, by rw [take_succ_of hx, hsn]; exact s4.ext _, rfl, rfl⟩
  · exact ⟨0, L0, by omega, by simp only [go_sem, Nat.reduceAdd, Nat.reduceMul, Nat.reduceSub, Nat.reduceBEq, Nat.reduceEqDiff, Nat.reduceLeDiff, Nat.reduceLT, Nat.reduceBneDiff, Int.reduceAdd, Int.cast_ofNat_Int, Int.toNat_natCast, Int.reduceLE, Int.reduceLT, Int.reduceToNat, Int.reduceEq, ↓reduceIte]; simpa [applyW] using how, by simp only [go_sem, Nat.reduceAdd, Nat.reduceMul, Nat.reduceSub, Nat.reduceBEq, Nat.reduceEqDiff, Nat.reduceLeDiff, Nat.reduceLT, Nat.reduceBneDiff, Int.reduceAdd, Int.cast_ofNat_Int, Int.toNat_natCast, Int.reduceLE, Int.reduceLT, Int.reduceToNat, Int.reduceEq, ↓reduceIte], by simp only [go_sem, Nat.reduceAdd, Nat.reduceMul, Nat.reduceSub, Nat.reduceBEq, Nat.reduceEqDiff, Nat.reduceLeDiff, Nat.reduceLT, Nat.reduceBneDiff, Int.reduceAdd, Int.cast_ofNat_Int, Int.toNat_natCast, Int.reduceLE, Int.reduceLT, Int.reduceToNat, Int.reduceEq, ↓reduceIte], by simp only [go_sem, Nat.reduceAdd, Nat.reduceMul, Nat.reduceSub, Nat.reduceBEq, Nat.reduceEqDiff, Nat.reduceLeDiff, Nat.reduceLT, Nat.reduceBneDiff, Int.reduceAdd, Int.cast_ofNat_Int, Int.toNat_natCast, Int.reduceLE, Int.reduceLT, Int.reduceToNat, Int.reduceEq, ↓reduceIte], rfl⟩
end Go.Proofs.Ytmjanbhmpbhagaa.C
