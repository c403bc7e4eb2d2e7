/- THE ORDER OF LENGTHS: Insert, the program's and the document's. Conditions: the slice shows the slots. -/
import Derived.Test.YtmjanbhmpbhagaaLcV
set_option linter.unusedVariables false
set_option linter.unusedSimpArgs false
namespace Go.AM
def downW (l : List Sl) (to : Nat) (x : En) : List Wr := match (frees l to l.length).head? with
  | some k => shiftD l (fun j => to + j) x (k - to + 1) (k - to)
  | none => []
def upW (l : List Sl) (fr : Nat) (x : En) : List Wr := match (frees l 0 fr).getLast? with
  | some k => shiftD l (fun j => fr - 1 - j) x (fr - 1 - k + 1) (fr - 1 - k)
  | none => []
/-- The writes that have an entry stand, or why there are none. -/
def ploW (l : List Sl) (x : En) : List Wr × Int :=
  if x.right = false then ([], 1) else
  if longs (ents l) = false then ([], 7) else
  if frees l 0 l.length = [] then ([], 3) else
  match (frees l (fromN l x.n) (toN l x.n)).head? with
  | some k => ([⟨(k : Int), ⟨true, x⟩⟩], 0)
  | none =>
    if (downW l (toN l x.n) x).length = 0 ∨ (0 < (upW l (fromN l x.n) x).length ∧ (upW l (fromN l x.n) x).length < (downW l (toN l x.n) x).length) then (upW l (fromN l x.n) x, 0) else (downW l (toN l x.n) x, 0)
theorem fIdx_frees (l : List Sl) {i j : Nat} (hij : i ≤ j) (hj : j ≤ l.length) : fIdx (fun s => !s.ok) 0 ((l.take j).drop i) = match (frees l i j).head? with | some k => (k : Int) - i | none => -1 := by
  have get : ∀ q, ((l.take j).drop i)[q]? = if i + q < j then l[i + q]? else none := by
    intro q
    rw [List.getElem?_drop, List.getElem?_take]
  rcases fIdx_cases (fun s : Sl => !s.ok) 0 ((l.take j).drop i) with ⟨h1, _, h3⟩ | ⟨q, s, h1, h2, _, h4, h5⟩
  · have : frees l i j = [] := by
      rw [List.eq_nil_iff_forall_not_mem]
      intro k hk
      obtain ⟨k1, k2, t, k3, k4⟩ := mem_frees.1 hk
      have hm : ((l.take j).drop i)[k - i]? = some t := by rw [get, if_pos (by omega), show i + (k - i) = k by omega, k3]
      have := h3 t (List.mem_of_getElem? hm)
      rw [k4] at this; cases this
    rw [h1, this]; rfl
  · rw [get] at h2
    split at h2
    · rename_i hq
      have hbefore : frees l i (i + q) = [] := by
        rw [List.eq_nil_iff_forall_not_mem]
        intro k hk
        obtain ⟨k1, k2, t, k3, k4⟩ := mem_frees.1 hk
        have := h5 (k - i) t (by omega) (by rw [get, if_pos (by omega), show i + (k - i) = k by omega, k3])
        rw [k4] at this; cases this
      have hok : s.ok = false := by simpa using h4
      have : frees l i j = (i + q) :: frees l (i + q + 1) j := by
        rw [frees_split l (show i ≤ i + q by omega) (show i + q ≤ j by omega), hbefore, frees_split l (show i + q ≤ i + q + 1 by omega) (show i + q + 1 ≤ j by omega), frees_one h2, hok]
        rfl
      rw [h1, this]
      show ((0 + q : Nat) : Int) = ((i + q : Nat) : Int) - (i : Int)
      omega
    · cases h2
theorem lens_conv {l : List Sl} (h : longs (ents l) = true) {a b c : Nat} (hab : a ≤ b) (hbc : b ≤ c) (hok : ∀ i, a ≤ i → i ≤ c → ∃ s, l[i]? = some s ∧ s.ok = true) : lenAt l b ≤ lenAt l a ∧ lenAt l c ≤ lenAt l b := by
  have two : ∀ i j, a ≤ i → i ≤ j → j ≤ c → lenAt l j ≤ lenAt l i := by
    intro i j h1 h2 h3
    obtain ⟨s, hs, os⟩ := hok i h1 (by omega)
    obtain ⟨t, ht, ot⟩ := hok j (by omega) h3
    unfold lenAt
    rw [hs, ht]
    rcases Nat.lt_or_ge i j with h4 | h4
    · exact longs_at h h4 hs ht os ot
    · have : i = j := by omega
      subst this
      rw [hs] at ht; cases ht; exact Int.le_refl _
  exact ⟨two a b (Nat.le_refl _) hab hbc, two b c hab hbc (Nat.le_refl _)⟩
/-- Ahead of the first that is free all are taken; behind the last one, too. -/
theorem ok_head {l : List Sl} {i j k : Nat} (hj : j ≤ l.length) (h : (frees l i j).head? = some k) : ∀ q, i ≤ q → q < k → ∃ s, l[q]? = some s ∧ s.ok = true := by
  intro q h1 h2
  have hk := mem_frees.1 (List.mem_of_head? h)
  obtain ⟨s, hs, _⟩ := get_of_lt (show q < l.length by omega)
  refine ⟨s, hs, ?_⟩
  cases ho : s.ok
  · exfalso
    rw [frees_split l (show i ≤ q by omega) (show q ≤ j by omega), frees_split l (show q ≤ q + 1 by omega) (show q + 1 ≤ j by omega), frees_one hs, ho] at h
    cases hf : frees l i q with
    | nil =>
      rw [hf] at h
      simp at h; omega
    | cons a r =>
      rw [hf] at h
      simp at h
      have := mem_frees.1 (show a ∈ frees l i q by rw [hf]; simp)
      omega
  · rfl
theorem ok_last {l : List Sl} {i j k : Nat} (hj : j ≤ l.length) (h : (frees l i j).getLast? = some k) : ∀ q, k < q → q < j → ∃ s, l[q]? = some s ∧ s.ok = true := by
  intro q h1 h2
  have hk := mem_frees.1 (List.mem_of_getLast? h)
  obtain ⟨s, hs, _⟩ := get_of_lt (show q < l.length by omega)
  refine ⟨s, hs, ?_⟩
  cases ho : s.ok
  · exfalso
    rw [frees_split l (show i ≤ q by omega) (show q ≤ j by omega), frees_split l (show q ≤ q + 1 by omega) (show q + 1 ≤ j by omega), frees_one hs, ho] at h
    have hm : k ∈ q :: frees l (q + 1) j := by
      have h' : ((if false = true then [] else [q]) ++ frees l (q + 1) j).getLast? = some k := by
        rw [List.getLast?_append] at h
        simp only [Bool.false_eq_true, if_false, List.singleton_append] at h ⊢
        cases hl : (q :: frees l (q + 1) j).getLast? with
        | none => simp at hl
        | some z => rw [hl] at h; simpa using h
      exact List.mem_of_getLast? (by simpa using h')
    rcases List.mem_cons.1 hm with h3 | h3
    · omega
    · have := mem_frees.1 h3
      omega
  · rfl
end Go.AM
namespace Go.Proofs.Ytmjanbhmpbhagaa.C
open Go.AM
variable {hook : Nat → Nat → List AV → Heap → Option (AV × Heap)} {lim : Nat} {H : Heap}
theorem ev_ploInsert (v : AV) (l : List Sl) (x : En) (hv : Lst Sl.c 7 H v l) (hl : l.length < 500000) :
    ∃ v' L, ev (PX hook) lim 82 [v, .agg x.c] H = some (.tup [v', .int .i64 (ploW l x).2], H ++ L) ∧ Ow Wr.c 8 H L v' (ploW l x).1 := by
  suffices hs : EV (PX hook) lim 82 [v, .agg x.c] H fun r H' => ∃ v' L, r = .tup [v', .int .i64 (ploW l x).2] ∧ H' = H ++ L ∧ Ow Wr.c 8 H L v' (ploW l x).1 by
    rw [EV_iff] at hs; obtain ⟨r, H', h1, v', L, rfl, rfl, h2⟩ := hs; exact ⟨v', L, h1, h2⟩
  rw [EV_own _ (PF t82) rfl (by decide)]
  have hv1 := hv.more [Blk.rw 0 6 x.c]
  have hkept := ev_ploKept (hook := hook) (lim := H.length) v l hv1 (by omega)
  have hfree := ev_Free (hook := hook) (lim := H.length) v l hv1 (by omega)
  have nilf : ∀ (e : Int) (G : Heap), finish .slices H.length (.tup [.nils, .int .i64 e]) (H ++ G) = some (.tup [.nils, .int .i64 e], H) := fun e G => finish_two e (finish_nils _ _) (fun _ h => by cases h)
  have hto := toN_le l x.n
  have hfr := fromN_le l x.n
  unfold ploW
  cases hr : x.right
  · simp only [f82, go_sem, Nat.reduceAdd, Nat.reduceMul, Nat.reduceSub, Nat.reduceBEq, Nat.reduceEqDiff, Nat.reduceLeDiff, Nat.reduceLT, Nat.reduceBneDiff, Int.reduceAdd, Int.cast_ofNat_Int, Int.toNat_natCast, Int.reduceLE, Int.reduceLT, Int.reduceToNat, Int.reduceEq, ↓reduceIte, ev_ERight, hr, nilf]
    exact ⟨.nils, [], rfl, by simp, Gr.nil.ow⟩
  · rw [if_neg (by simp)]
    cases ho : longs (ents l)
    · rw [ho] at hkept
      simp only [f82, go_sem, Nat.reduceAdd, Nat.reduceMul, Nat.reduceSub, Nat.reduceBEq, Nat.reduceEqDiff, Nat.reduceLeDiff, Nat.reduceLT, Nat.reduceBneDiff, Int.reduceAdd, Int.cast_ofNat_Int, Int.toNat_natCast, Int.reduceLE, Int.reduceLT, Int.reduceToNat, Int.reduceEq, ↓reduceIte, ev_ERight, hr, hkept, nilf]
      exact ⟨.nils, [], rfl, by simp, Gr.nil.ow⟩
    · rw [ho] at hkept
      rw [if_neg (by simp)]
      by_cases hz : frees l 0 l.length = []
      · have d : (((l.length : Int) - ((ents l).length : Int)) == 0) = true := by rw [beq_iff_eq]; exact frees_zero.2 hz
        rw [if_pos hz]
        simp only [f82, go_sem, Nat.reduceAdd, Nat.reduceMul, Nat.reduceSub, Nat.reduceBEq, Nat.reduceEqDiff, Nat.reduceLeDiff, Nat.reduceLT, Nat.reduceBneDiff, Int.reduceAdd, Int.cast_ofNat_Int, Int.toNat_natCast, Int.reduceLE, Int.reduceLT, Int.reduceToNat, Int.reduceEq, ↓reduceIte, ev_ERight, hr, hkept, hfree, d, nilf]
        exact ⟨.nils, [], rfl, by simp, Gr.nil.ow⟩
      · have d : (((l.length : Int) - ((ents l).length : Int)) == 0) = false := by rw [beq_eq_false_iff_ne]; exact fun h => hz (frees_zero.1 h)
        rw [if_neg hz]
        have hgle := gap_le ho x.n
        have hgap := ev_ploGap (hook := hook) (lim := H.length) v l x.n hv1 (by omega) ho
        obtain ⟨vs, s1, s1', _, _, s2⟩ := hv1.sub Sl.len (fromN l x.n) (toN l x.n) hgle hto
        have hidx := ev_IndexS (hook := hook) (lim := H.length) vs _ 101 [] (fun s => !s.ok) s2 (by simp; omega) (fun s => ev_ploEmpty s)
        rw [fIdx_frees l hgle hto] at hidx
        cases hf : (frees l (fromN l x.n) (toN l x.n)).head? with
        | some k =>
          rw [hf] at hidx
          have hk := mem_frees.1 (List.mem_of_head? hf)
          have d3 : decide ((0 : Int) ≤ (k : Int) - (fromN l x.n : Int)) = true := by rw [decide_eq_true_eq]; omega
          have a1 : IntKind.wrap .i64 ((fromN l x.n : Int) + ((k : Int) - (fromN l x.n : Int))) = (k : Int) := by rw [wrap_i64] <;> omega
          have hone : Ow Wr.c 8 (H ++ [Blk.rw 0 6 x.c]) [Blk.rw 0 8 (Wr.c ⟨(k : Int), ⟨true, x⟩⟩)] (.sl (H.length + 1) 0 0 1 true) [⟨(k : Int), ⟨true, x⟩⟩] := by
            refine Or.inr ⟨H.length + 1, 0, true, by simp, rfl, ?_⟩
            rw [List.append_assoc, List.getElem?_append_right (by omega), show H.length + 1 - H.length = 1 by omega, cat_one]; rfl
          obtain ⟨v', L', hfin, hg'⟩ := hone.keep Wr.fl
          have ff := finish_two 0 hfin hone.notup
          simp only [List.append_assoc, List.cons_append, List.nil_append] at ff
          simp only [f82, go_sem, Nat.reduceAdd, Nat.reduceMul, Nat.reduceSub, Nat.reduceBEq, Nat.reduceEqDiff, Nat.reduceLeDiff, Nat.reduceLT, Nat.reduceBneDiff, Int.reduceAdd, Int.cast_ofNat_Int, Int.toNat_natCast, Int.reduceLE, Int.reduceLT, Int.reduceToNat, Int.reduceEq, ↓reduceIte, ev_ERight, hr, hkept, hfree, d, hgap, s1, s1', hidx, ge_iff_le, d3, a1, ff]
          exact ⟨v', L', rfl, rfl, hg'⟩
        | none =>
          rw [hf] at hidx
          have d3 : decide ((0 : Int) ≤ -1) = false := by decide
          -- below
          obtain ⟨wd, t1, t1', _, t3, t2⟩ := hv1.sub Sl.len (toN l x.n) l.length hto (Nat.le_refl _)
          obtain ⟨t3, t3'⟩ := t3 rfl
          have hidx2 := ev_IndexS (hook := hook) (lim := H.length) wd _ 101 [] (fun s => !s.ok) t2 (by simp; omega) (fun s => ev_ploEmpty s)
          rw [fIdx_frees l hto (Nat.le_refl _)] at hidx2
          have hlast := ev_ploLast (hook := hook) (lim := H.length) (H := H ++ [Blk.rw 0 6 x.c])  v l (fromN l x.n) hv1 (by omega) hfr
          have w0 : IntKind.wrap .i64 ((fromN l x.n : Int) - 1) = (fromN l x.n : Int) - 1 := by rw [wrap_i64] <;> omega
          -- what is below, and what is above
          have hbel : ∃ vb Lb, Gr Wr.c 8 (H ++ [Blk.rw 0 6 x.c]) Lb vb (downW l (toN l x.n) x) ∧ ((∃ k : Nat, (frees l (toN l x.n) l.length).head? = some k ∧ toN l x.n ≤ k ∧ k < l.length ∧ ev (PX hook) H.length 102 [v, .int .i64 (k : Int), .int .i64 (toN l x.n : Int), .int .i64 (-1), .agg x.c] (H ++ [Blk.rw 0 6 x.c]) = some (vb, (H ++ [Blk.rw 0 6 x.c]) ++ Lb) ∧ 0 < (downW l (toN l x.n) x).length) ∨ ((frees l (toN l x.n) l.length).head? = none ∧ vb = .nils ∧ Lb = [] ∧ downW l (toN l x.n) x = [])) := by
            unfold downW
            cases hd : (frees l (toN l x.n) l.length).head? with
            | none => exact ⟨.nils, [], Gr.nil, Or.inr ⟨rfl, rfl, rfl, rfl⟩⟩
            | some k =>
              have hk := mem_frees.1 (List.mem_of_head? hd)
              obtain ⟨vb, Lb, h1, h2⟩ := ev_shift (hook := hook) (lim := H.length) v l (fun j => toN l x.n + j) (-1) (k - toN l x.n) x (Or.inr rfl) (fun j hj => by omega) (fun j h0 hj => by omega) (by omega) hv1 (by omega)
              have e1 : ((toN l x.n + (k - toN l x.n) : Nat) : Int) = (k : Int) := by omega
              simp only [Nat.add_zero] at h1
              rw [e1] at h1
              exact ⟨vb, Lb, h2, Or.inl ⟨k, rfl, hk.1, hk.2.1, h1, shiftD_pos _ _ _ _ _⟩⟩
          obtain ⟨vb, Lb, gb, hbel⟩ := hbel
          have hv2 := hv1.more Lb
          have hlast2 := ev_ploLast (hook := hook) (lim := H.length) v l (fromN l x.n) hv2 (by omega) hfr
          have habo : ∃ va La, Gr Wr.c 8 ((H ++ [Blk.rw 0 6 x.c]) ++ Lb) La va (upW l (fromN l x.n) x) ∧ ((∃ k : Nat, (frees l 0 (fromN l x.n)).getLast? = some k ∧ k < fromN l x.n ∧ ev (PX hook) H.length 102 [v, .int .i64 (k : Int), .int .i64 ((fromN l x.n : Int) - 1), .int .i64 1, .agg x.c] ((H ++ [Blk.rw 0 6 x.c]) ++ Lb) = some (va, ((H ++ [Blk.rw 0 6 x.c]) ++ Lb) ++ La) ∧ 0 < (upW l (fromN l x.n) x).length) ∨ ((frees l 0 (fromN l x.n)).getLast? = none ∧ va = .nils ∧ La = [] ∧ upW l (fromN l x.n) x = [])) := by
            unfold upW
            cases hd : (frees l 0 (fromN l x.n)).getLast? with
            | none => exact ⟨.nils, [], Gr.nil, Or.inr ⟨rfl, rfl, rfl, rfl⟩⟩
            | some k =>
              have hk := mem_frees.1 (List.mem_of_getLast? hd)
              obtain ⟨vb, Lb, h1, h2⟩ := ev_shift (hook := hook) (lim := H.length) v l (fun j => fromN l x.n - 1 - j) 1 (fromN l x.n - 1 - k) x (Or.inl rfl) (fun j hj => by omega) (fun j h0 hj => by omega) (by omega) hv2 (by omega)
              have e1 : ((fromN l x.n - 1 - (fromN l x.n - 1 - k) : Nat) : Int) = (k : Int) := by omega
              have e2 : ((fromN l x.n - 1 - 0 : Nat) : Int) = (fromN l x.n : Int) - 1 := by omega
              simp only [e1, e2] at h1
              exact ⟨vb, Lb, h2, Or.inl ⟨k, rfl, hk.2.1, h1, shiftD_pos _ _ _ _ _⟩⟩
          obtain ⟨va, La, ga, habo⟩ := habo
          have nb := (gb.lst.more La).len'
          have na := ga.lst.len'
          have nb0 := nb
          have na0 := na
          simp only [List.append_assoc, List.cons_append, List.nil_append] at nb na
          simp only
          generalize downW l (toN l x.n) x = b at *
          generalize upW l (fromN l x.n) x = a at *
          have gb2 : Gr Wr.c 8 (H ++ [Blk.rw 0 6 x.c]) (Lb ++ La) vb b := gb.ext La
          have ga2 : Gr Wr.c 8 (H ++ ([Blk.rw 0 6 x.c] ++ Lb)) La va a := by rw [← List.append_assoc]; exact ga
          rcases hbel with ⟨kb, hb1, hb2, hb3, sb, hb4⟩ | ⟨hb1, rfl, rfl, rfl⟩
          · rw [hb1] at hidx2
            have d4 : decide ((0 : Int) ≤ (kb : Int) - (toN l x.n : Int)) = true := by rw [decide_eq_true_eq]; omega
            have a2 : IntKind.wrap .i64 ((toN l x.n : Int) + ((kb : Int) - (toN l x.n : Int))) = (kb : Int) := by rw [wrap_i64] <;> omega
            have d5 : ((b.length : Int) == 0) = false := by rw [beq_eq_false_iff_ne]; omega
            rcases habo with ⟨ka, ha1, ha2, sa, ha4⟩ | ⟨ha1, rfl, rfl, rfl⟩
            · rw [ha1] at hlast2
              have d6 : decide ((0 : Int) ≤ (ka : Int)) = true := by rw [decide_eq_true_eq]; omega
              have d7 : decide ((0 : Int) < (a.length : Int)) = true := by rw [decide_eq_true_eq]; omega
              simp only [optI] at hlast2
              by_cases hlt : a.length < b.length
              · have d8 := lt_true hlt
                rw [if_pos (Or.inr ⟨ha4, hlt⟩)]
                obtain ⟨v', L', fk, ok⟩ := ga2.keep Wr.fl
                have ff := finish_two 0 fk ga2.notup
                simp only [List.append_assoc, List.cons_append, List.nil_append, List.append_nil] at ff nb na hlast2 sb sa
                simp only [f82, go_sem, Nat.reduceAdd, Nat.reduceMul, Nat.reduceSub, Nat.reduceBEq, Nat.reduceEqDiff, Nat.reduceLeDiff, Nat.reduceLT, Nat.reduceBneDiff, Int.reduceAdd, Int.cast_ofNat_Int, Int.toNat_natCast, Int.reduceLE, Int.reduceLT, Int.reduceToNat, Int.reduceEq, ↓reduceIte, ev_ERight, hr, hkept, hfree, d, hgap, s1, s1', hidx, ge_iff_le, gt_iff_lt, d3, t3, t3', hidx2, sb, sa, d4, a2, d5, d6, d7, d8, hlast2, w0, nb, na, ff]
                exact ⟨v', L', rfl, rfl, ok.ow⟩
              · have d8 : decide ((a.length : Int) < (b.length : Int)) = false := by rw [decide_eq_false_iff_not]; omega
                rw [if_neg (by intro h; rcases h with h | h; omega; exact hlt h.2)]
                obtain ⟨v', L', fk, ok⟩ := gb2.keep Wr.fl
                have ff := finish_two 0 fk gb2.notup
                simp only [List.append_assoc, List.cons_append, List.nil_append, List.append_nil] at ff nb na hlast2 sb sa
                simp only [f82, go_sem, Nat.reduceAdd, Nat.reduceMul, Nat.reduceSub, Nat.reduceBEq, Nat.reduceEqDiff, Nat.reduceLeDiff, Nat.reduceLT, Nat.reduceBneDiff, Int.reduceAdd, Int.cast_ofNat_Int, Int.toNat_natCast, Int.reduceLE, Int.reduceLT, Int.reduceToNat, Int.reduceEq, ↓reduceIte, ev_ERight, hr, hkept, hfree, d, hgap, s1, s1', hidx, ge_iff_le, gt_iff_lt, d3, t3, t3', hidx2, sb, sa, d4, a2, d5, d6, d7, d8, hlast2, w0, nb, na, ff]
                exact ⟨v', L', rfl, rfl, ok.ow⟩
            · rw [ha1] at hlast2
              have d6 : decide ((0 : Int) ≤ -1) = false := by decide
              have d7 : decide ((0 : Int) < 0) = false := by decide
              simp only [optI] at hlast2
              rw [if_neg (by intro h; rcases h with h | h; omega; simp at h)]
              obtain ⟨v', L', fk, ok⟩ := gb2.keep Wr.fl
              have ff := finish_two 0 fk gb2.notup
              simp only [List.append_assoc, List.cons_append, List.nil_append, List.append_nil] at ff nb na hlast2 sb
              simp only [f82, go_sem, Nat.reduceAdd, Nat.reduceMul, Nat.reduceSub, Nat.reduceBEq, Nat.reduceEqDiff, Nat.reduceLeDiff, Nat.reduceLT, Nat.reduceBneDiff, Int.reduceAdd, Int.cast_ofNat_Int, Int.toNat_natCast, Int.reduceLE, Int.reduceLT, Int.reduceToNat, Int.reduceEq, ↓reduceIte, ev_ERight, hr, hkept, hfree, d, hgap, s1, s1', hidx, ge_iff_le, gt_iff_lt, d3, t3, t3', hidx2, sb, d4, a2, d5, d6, d7, hlast2, w0, nb, na, ff]
              exact ⟨v', L', rfl, rfl, ok.ow⟩
          · rw [hb1] at hidx2
            have d4 : decide ((0 : Int) ≤ -1) = false := by decide
            have d5 : ((0 : Int) == 0) = true := rfl
            rw [if_pos (Or.inl (show ([] : List Wr).length = 0 from rfl))]
            rcases habo with ⟨ka, ha1, ha2, sa, ha4⟩ | ⟨ha1, rfl, rfl, rfl⟩
            · rw [ha1] at hlast2
              have d6 : decide ((0 : Int) ≤ (ka : Int)) = true := by rw [decide_eq_true_eq]; omega
              simp only [optI] at hlast2
              obtain ⟨v', L', fk, ok⟩ := ga2.keep Wr.fl
              have ff := finish_two 0 fk ga2.notup
              simp only [List.append_assoc, List.cons_append, List.nil_append, List.append_nil] at ff nb na hlast2 sa
              simp only [f82, go_sem, Nat.reduceAdd, Nat.reduceMul, Nat.reduceSub, Nat.reduceBEq, Nat.reduceEqDiff, Nat.reduceLeDiff, Nat.reduceLT, Nat.reduceBneDiff, Int.reduceAdd, Int.cast_ofNat_Int, Int.toNat_natCast, Int.reduceLE, Int.reduceLT, Int.reduceToNat, Int.reduceEq, ↓reduceIte, ev_ERight, hr, hkept, hfree, d, hgap, s1, s1', hidx, ge_iff_le, gt_iff_lt, d3, t3, t3', hidx2, sa, d4, d5, d6, hlast2, w0, nb, na, ff]
              exact ⟨v', L', rfl, rfl, ok.ow⟩
            · rw [ha1] at hlast2
              have d6 : decide ((0 : Int) ≤ -1) = false := by decide
              simp only [optI] at hlast2
              obtain ⟨v', L', fk, ok⟩ := ga2.keep Wr.fl
              have ff := finish_two 0 fk ga2.notup
              simp only [List.append_assoc, List.cons_append, List.nil_append, List.append_nil] at ff nb na hlast2
              simp only [f82, go_sem, Nat.reduceAdd, Nat.reduceMul, Nat.reduceSub, Nat.reduceBEq, Nat.reduceEqDiff, Nat.reduceLeDiff, Nat.reduceLT, Nat.reduceBneDiff, Int.reduceAdd, Int.cast_ofNat_Int, Int.toNat_natCast, Int.reduceLE, Int.reduceLT, Int.reduceToNat, Int.reduceEq, ↓reduceIte, ev_ERight, hr, hkept, hfree, d, hgap, s1, s1', hidx, ge_iff_le, gt_iff_lt, d3, t3, t3', hidx2, d4, d5, d6, hlast2, w0, nb, na, ff]
              exact ⟨v', L', rfl, rfl, ok.ow⟩
end Go.Proofs.Ytmjanbhmpbhagaa.C
