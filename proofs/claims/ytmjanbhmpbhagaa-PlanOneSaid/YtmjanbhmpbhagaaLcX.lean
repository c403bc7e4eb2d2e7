/- THE ORDER OF LENGTHS: the document's Insert. Conditions: the slice shows the slots. -/
import Derived.Test.YtmjanbhmpbhagaaLcW
set_option linter.unusedVariables false
set_option linter.unusedSimpArgs false
namespace Go.AM
theorem frees_min_ok {l : List Sl} {a b i : Nat} {s : Sl} (hs : l[i]? = some s) (ho : s.ok = true) : frees l a (min (i + 1) b) = frees l a (min i b) := by
  by_cases h1 : i < b
  · rw [show min (i + 1) b = i + 1 by omega, show min i b = i by omega]
    by_cases h2 : a ≤ i
    · rw [frees_snoc h2 hs, ho]; simp
    · rw [frees_none l (by omega), frees_none l (by omega)]
  · rw [show min (i + 1) b = b by omega, show min i b = b by omega]
theorem frees_ok {l : List Sl} {a i : Nat} {s : Sl} (hs : l[i]? = some s) (ho : s.ok = true) : frees l a (i + 1) = frees l a i := by
  have := frees_min_ok (a := a) (b := i + 1) hs ho
  rwa [show min (i + 1) (i + 1) = i + 1 by omega, show min i (i + 1) = i by omega] at this
end Go.AM
namespace Go.Proofs.Ytmjanbhmpbhagaa.C
open Go.AM
variable {hook : Nat → Nat → List AV → Heap → Option (AV × Heap)} {lim : Nat} {H : Heap}
theorem ev_rploInsert (v : AV) (l : List Sl) (x : En) (hv : Lst Sl.c 7 H v l) (hl : l.length < 500000) :
    ∃ v' L, ev (PX hook) lim 49 [v, .agg x.c] H = some (.tup [v', .int .i64 (ploW l x).2], H ++ L) ∧ Ow Wr.c 8 H L v' (ploW l x).1 := by
  suffices hs : EV (PX hook) lim 49 [v, .agg x.c] H fun r H' => ∃ v' L, r = .tup [v', .int .i64 (ploW l x).2] ∧ H' = H ++ L ∧ Ow Wr.c 8 H L v' (ploW l x).1 by
    rw [EV_iff] at hs; obtain ⟨r, H', h1, v', L, rfl, rfl, h2⟩ := hs; exact ⟨v', L, h1, h2⟩
  rw [EV_own _ (PF t49) rfl (by decide)]
  have hv1 := hv.more [Blk.rw 0 6 x.c]
  have hlen := hv.len
  have hkept := ev_rploKept (hook := hook) (lim := H.length) v l hv1 (by omega)
  have hgap := ev_rploGap (hook := hook) (lim := H.length) v l x.n hv1 (by omega)
  have nilf : ∀ (e : Int) (G : Heap), finish .slices H.length (.tup [.nils, .int .i64 e]) (H ++ G) = some (.tup [.nils, .int .i64 e], H) := fun e G => finish_two e (finish_nils _ _) (fun _ h => by cases h)
  have hto := toN_le l x.n
  have hfr := fromN_le l x.n
  cases hr : x.right
  · have hw : ploW l x = ([], 1) := by unfold ploW; rw [if_pos hr]
    rw [hw]
    simp only [f49, go_sem, Nat.reduceAdd, Nat.reduceMul, Nat.reduceSub, Nat.reduceBEq, Nat.reduceEqDiff, Nat.reduceLeDiff, Nat.reduceLT, Nat.reduceBneDiff, Int.reduceAdd, Int.cast_ofNat_Int, Int.toNat_natCast, Int.reduceLE, Int.reduceLT, Int.reduceToNat, Int.reduceEq, ↓reduceIte, ev_rRight8, hr, nilf]
    exact ⟨.nils, [], rfl, by simp, Gr.nil.ow⟩
  · cases ho : longs (ents l)
    · have hw : ploW l x = ([], 7) := by unfold ploW; rw [if_neg (by simp [hr]), if_pos ho]
      rw [ho] at hkept
      rw [hw]
      simp only [f49, go_sem, Nat.reduceAdd, Nat.reduceMul, Nat.reduceSub, Nat.reduceBEq, Nat.reduceEqDiff, Nat.reduceLeDiff, Nat.reduceLT, Nat.reduceBneDiff, Int.reduceAdd, Int.cast_ofNat_Int, Int.toNat_natCast, Int.reduceLE, Int.reduceLT, Int.reduceToNat, Int.reduceEq, ↓reduceIte, ev_rRight8, hr, hkept, nilf]
      exact ⟨.nils, [], rfl, by simp, Gr.nil.ow⟩
    · rw [ho] at hkept
      have hgle := gap_le ho x.n
      have hw : frees l 0 l.length ≠ [] → ploW l x = match (frees l (fromN l x.n) (toN l x.n)).head? with
          | some k => ([⟨(k : Int), ⟨true, x⟩⟩], 0)
          | none => if (downW l (toN l x.n) x).length = 0 ∨ (0 < (upW l (fromN l x.n) x).length ∧ (upW l (fromN l x.n) x).length < (downW l (toN l x.n) x).length) then (upW l (fromN l x.n) x, 0) else (downW l (toN l x.n) x, 0) := by
        intro hne
        unfold ploW
        rw [if_neg (by simp [hr]), if_neg (by simp [ho]), if_neg hne]
        rfl
      have hw0 : frees l 0 l.length = [] → ploW l x = ([], 3) := by
        intro hne
        unfold ploW
        rw [if_neg (by simp [hr]), if_neg (by simp [ho]), if_pos hne]
      -- what is below, and what is above
      have hbelow : ∀ (G : Heap) (k : Nat), (frees l (toN l x.n) l.length).head? = some k → ∃ vb Lb, ev (PX hook) H.length 80 [v, .int .i64 (k : Int), .int .i64 (toN l x.n : Int), .agg x.c] (H ++ G) = some (vb, (H ++ G) ++ Lb) ∧ Gr Wr.c 8 (H ++ G) Lb vb (downW l (toN l x.n) x) ∧ 0 < (downW l (toN l x.n) x).length := by
        intro G k hd
        have hk := mem_frees.1 (List.mem_of_head? hd)
        have hok := ok_head (Nat.le_refl _) hd
        obtain ⟨vb, Lb, h1, h2⟩ := ev_rbelow (hook := hook) (lim := H.length) v l (fun j => toN l x.n + j) (k - toN l x.n) x (fun j hj => by omega) (fun j hj => by omega) (by omega) (by omega)
          (fun i j q h1 h2 h3 h4 => by
            have := lens_conv ho (a := toN l x.n + i) (b := toN l x.n + j) (c := toN l x.n + q) (by omega) (by omega) (fun z hz1 hz2 => hok z (by omega) (by omega))
            omega) (hv.more G) (by omega)
        have e1 : ((toN l x.n + (k - toN l x.n) : Nat) : Int) = (k : Int) := by omega
        simp only [Nat.add_zero] at h1
        rw [e1] at h1
        refine ⟨vb, Lb, h1, ?_, ?_⟩
        · unfold downW; rw [hd]; exact h2
        · unfold downW; rw [hd]; exact shiftD_pos _ _ _ _ _
      have habove : ∀ (G : Heap) (k : Nat), (frees l 0 (fromN l x.n)).getLast? = some k → ∃ va La, ev (PX hook) H.length 79 [v, .int .i64 (k : Int), .int .i64 ((fromN l x.n : Int) - 1), .agg x.c] (H ++ G) = some (va, (H ++ G) ++ La) ∧ Gr Wr.c 8 (H ++ G) La va (upW l (fromN l x.n) x) ∧ 0 < (upW l (fromN l x.n) x).length := by
        intro G k hd
        have hk := mem_frees.1 (List.mem_of_getLast? hd)
        have hok := ok_last hfr hd
        obtain ⟨va, La, h1, h2⟩ := ev_rabove (hook := hook) (lim := H.length) v l (fun j => fromN l x.n - 1 - j) (fromN l x.n - 1 - k) x (fun j hj => by omega) (fun j hj => by omega) (by omega) (by omega)
          (fun i j q h1 h2 h3 h4 => by
            have := lens_conv ho (a := fromN l x.n - 1 - q) (b := fromN l x.n - 1 - j) (c := fromN l x.n - 1 - i) (by omega) (by omega) (fun z hz1 hz2 => hok z (by omega) (by omega))
            omega) (hv.more G) (by omega)
        have e1 : ((fromN l x.n - 1 - (fromN l x.n - 1 - k) : Nat) : Int) = (k : Int) := by omega
        have e2 : ((fromN l x.n - 1 - 0 : Nat) : Int) = (fromN l x.n : Int) - 1 := by omega
        simp only [e1, e2] at h1
        refine ⟨va, La, h1, ?_, ?_⟩
        · unfold upW; rw [hd]; exact h2
        · unfold upW; rw [hd]; exact shiftD_pos _ _ _ _ _
      generalize hb : downW l (toN l x.n) x = b at *
      generalize ha : upW l (fromN l x.n) x = a at *
      generalize htt : toN l x.n = to at *
      generalize hff : fromN l x.n = fr at *
      simp only [f49, go_sem, Nat.reduceAdd, Nat.reduceMul, Nat.reduceSub, Nat.reduceBEq, Nat.reduceEqDiff, Nat.reduceLeDiff, Nat.reduceLT, Nat.reduceBneDiff, Int.reduceAdd, Int.cast_ofNat_Int, Int.toNat_natCast, Int.reduceLE, Int.reduceLT, Int.reduceToNat, Int.reduceEq, ↓reduceIte, ev_rRight8, hr, hkept, hgap]
      refine GO_loop _ (fun m e H' => ∃ i : Nat, i + m = l.length ∧ frees l fr (min i to) = [] ∧ e 8 = .int .i64 (optI (frees l to i).head?) ∧ e 9 = .int .i64 (optI (frees l 0 (min i fr)).getLast?) ∧ e 0 = v ∧ e 3 = .ptr H.length 0 0 ∧ e 6 = .int .i64 (fr : Int) ∧ e 7 = .int .i64 (to : Int) ∧ e 10 = .int .i64 (i : Int) ∧ H' = H ++ [Blk.rw 0 6 x.c]) ?_ l.length _ _ ?_
      · rintro m e H' ⟨i, hi, hg, i8, i9, i0, i3, i6, i7, i10, rfl⟩
        cases m with
        | zero =>
          have hi' : i = l.length := by omega
          subst hi'
          rw [show min l.length to = to by omega] at hg
          rw [show min l.length fr = fr by omega] at i9
          have w0 : IntKind.wrap .i64 ((fr : Int) - 1) = (fr : Int) - 1 := by rw [wrap_i64] <;> omega
          have hsplit := frees_split l (show 0 ≤ fr by omega) (show fr ≤ l.length by omega)
          rw [frees_split l (show fr ≤ to by omega) (show to ≤ l.length by omega), hg, List.nil_append] at hsplit
          have m1 : decide ((-1 : Int) < 0) = true := rfl
          have m2 : decide ((0 : Int) ≤ -1) = false := by decide
          cases hd : (frees l to l.length).head? with
          | none =>
            rw [hd] at i8
            simp only [optI] at i8
            have hdn := List.head?_eq_none_iff.1 hd
            cases hu : (frees l 0 fr).getLast? with
            | none =>
              rw [hu] at i9
              simp only [optI] at i9
              have hun := List.getLast?_eq_none_iff.1 hu
              rw [hw0 (by rw [hsplit, hun, hdn]; rfl)]
              simp only [f49b0, go_sem, Nat.reduceAdd, Nat.reduceMul, Nat.reduceSub, Nat.reduceBEq, Nat.reduceEqDiff, Nat.reduceLeDiff, Nat.reduceLT, Nat.reduceBneDiff, Int.reduceAdd, Int.cast_ofNat_Int, Int.toNat_natCast, Int.reduceLE, Int.reduceLT, Int.reduceToNat, Int.reduceEq, ↓reduceIte, i0, i3, i6, i7, i8, i9, i10, hlen, lt_false, m1, nilf]
              exact ⟨.nils, [], rfl, by simp, Gr.nil.ow⟩
            | some k =>
              rw [hu] at i9
              simp only [optI] at i9
              have d1 : decide ((k : Int) < 0) = false := by rw [decide_eq_false_iff_not]; omega
              obtain ⟨va, La, h1, h2, h3⟩ := habove [Blk.rw 0 6 x.c] k hu
              have hne : frees l 0 l.length ≠ [] := by
                rw [hsplit]
                intro h
                rw [List.append_eq_nil_iff] at h
                rw [h.1] at hu; cases hu
              have hbn : b = [] := by rw [← hb]; unfold downW; rw [hd]
              rw [hw hne, hg]
              simp only [List.head?_nil, hbn, List.length_nil, true_or, if_true]
              obtain ⟨v', L', fk, ok⟩ := h2.keep Wr.fl
              have ff := finish_two 0 fk h2.notup
              simp only [List.append_assoc, List.cons_append, List.nil_append] at h1 ff
              simp only [f49b0, go_sem, Nat.reduceAdd, Nat.reduceMul, Nat.reduceSub, Nat.reduceBEq, Nat.reduceEqDiff, Nat.reduceLeDiff, Nat.reduceLT, Nat.reduceBneDiff, Int.reduceAdd, Int.cast_ofNat_Int, Int.toNat_natCast, Int.reduceLE, Int.reduceLT, Int.reduceToNat, Int.reduceEq, ↓reduceIte, i0, i3, i6, i7, i8, i9, i10, hlen, lt_false, m1, d1, w0, h1, ff]
              exact ⟨v', L', rfl, rfl, ok.ow⟩
          | some kd =>
            rw [hd] at i8
            simp only [optI] at i8
            have d1 : decide ((kd : Int) < 0) = false := by rw [decide_eq_false_iff_not]; omega
            obtain ⟨vb, Lb, h1, h2, h3⟩ := hbelow [Blk.rw 0 6 x.c] kd hd
            have hne : frees l 0 l.length ≠ [] := by
              rw [hsplit]
              intro h
              rw [List.append_eq_nil_iff] at h
              rw [h.2] at hd; cases hd
            rw [hw hne, hg]
            simp only [List.head?_nil]
            cases hu : (frees l 0 fr).getLast? with
            | none =>
              rw [hu] at i9
              simp only [optI] at i9
              have han : a = [] := by rw [← ha]; unfold upW; rw [hu]
              rw [if_neg (by rw [han]; intro h; rcases h with h | h; omega; simp at h)]
              obtain ⟨v', L', fk, ok⟩ := h2.keep Wr.fl
              have ff := finish_two 0 fk h2.notup
              simp only [List.append_assoc, List.cons_append, List.nil_append] at h1 ff
              simp only [f49b0, go_sem, Nat.reduceAdd, Nat.reduceMul, Nat.reduceSub, Nat.reduceBEq, Nat.reduceEqDiff, Nat.reduceLeDiff, Nat.reduceLT, Nat.reduceBneDiff, Int.reduceAdd, Int.cast_ofNat_Int, Int.toNat_natCast, Int.reduceLE, Int.reduceLT, Int.reduceToNat, Int.reduceEq, ↓reduceIte, i0, i3, i6, i7, i8, i9, i10, hlen, lt_false, d1, h1, ge_iff_le, m2, ff]
              exact ⟨v', L', rfl, rfl, ok.ow⟩
            | some ku =>
              rw [hu] at i9
              simp only [optI] at i9
              have d2 : decide ((0 : Int) ≤ (ku : Int)) = true := by rw [decide_eq_true_eq]; omega
              obtain ⟨va, La, q1, q2, q3⟩ := habove ([Blk.rw 0 6 x.c] ++ Lb) ku hu
              obtain ⟨va', La', r1, r2, r3⟩ := habove (([Blk.rw 0 6 x.c] ++ Lb) ++ La) ku hu
              have n1 := (h2.lst.more La).len'
              have n2 := q2.lst.len'
              by_cases hlt : a.length < b.length
              · have d3 := lt_true hlt
                rw [if_pos (Or.inr ⟨q3, hlt⟩)]
                obtain ⟨v', L', fk, ok⟩ := r2.keep Wr.fl
                have ff := finish_two 0 fk r2.notup
                simp only [List.append_assoc, List.cons_append, List.nil_append] at h1 q1 r1 n1 n2 ff
                simp only [f49b0, go_sem, Nat.reduceAdd, Nat.reduceMul, Nat.reduceSub, Nat.reduceBEq, Nat.reduceEqDiff, Nat.reduceLeDiff, Nat.reduceLT, Nat.reduceBneDiff, Int.reduceAdd, Int.cast_ofNat_Int, Int.toNat_natCast, Int.reduceLE, Int.reduceLT, Int.reduceToNat, Int.reduceEq, ↓reduceIte, i0, i3, i6, i7, i8, i9, i10, hlen, lt_false, d1, h1, ge_iff_le, d2, w0, q1, r1, n1, n2, d3, ff]
                exact ⟨v', L', rfl, rfl, ok.ow⟩
              · have d3 : decide ((a.length : Int) < (b.length : Int)) = false := by rw [decide_eq_false_iff_not]; omega
                rw [if_neg (by intro h; rcases h with h | h; omega; exact hlt h.2)]
                have h2e := h2.ext La
                obtain ⟨v', L', fk, ok⟩ := h2e.keep Wr.fl
                have ff := finish_two 0 fk h2e.notup
                simp only [List.append_assoc, List.cons_append, List.nil_append] at h1 q1 n1 n2 ff
                simp only [f49b0, go_sem, Nat.reduceAdd, Nat.reduceMul, Nat.reduceSub, Nat.reduceBEq, Nat.reduceEqDiff, Nat.reduceLeDiff, Nat.reduceLT, Nat.reduceBneDiff, Int.reduceAdd, Int.cast_ofNat_Int, Int.toNat_natCast, Int.reduceLE, Int.reduceLT, Int.reduceToNat, Int.reduceEq, ↓reduceIte, i0, i3, i6, i7, i8, i9, i10, hlen, lt_false, d1, h1, ge_iff_le, d2, w0, q1, n1, n2, d3, ff]
                exact ⟨v', L', rfl, rfl, ok.ow⟩
        | succ m =>
          obtain ⟨s, hs, _⟩ := get_of_lt (show i < l.length by omega)
          obtain ⟨id, ver, q, E⟩ := hv.at (by omega) Sl.len hs
          have d := lt_true (show i < l.length by omega)
          have a1 := wrap_succ (show i < 1000000 by omega)
          cases hsok : s.ok
          · by_cases c1 : fr ≤ i
            · have g1 : decide ((fr : Int) ≤ (i : Int)) = true := by rw [decide_eq_true_eq]; omega
              have g4 : decide ((i : Int) < (fr : Int)) = false := by rw [decide_eq_false_iff_not]; omega
              have hfm : min (i + 1) fr = min i fr := by omega
              by_cases c2 : i < to
              · have g2 := lt_true c2
                rw [show min i to = i by omega] at hg
                have hhead : (frees l fr to).head? = some i := by
                  rw [frees_split l c1 (show i ≤ to by omega), hg, frees_split l (show i ≤ i + 1 by omega) (show i + 1 ≤ to by omega), frees_one hs, hsok]; rfl
                have hne : frees l 0 l.length ≠ [] := by
                  intro h
                  have : i ∈ frees l 0 l.length := mem_frees.2 ⟨by omega, by omega, s, hs, hsok⟩
                  rw [h] at this; cases this
                rw [hw hne, hhead]
                have hone : Ow Wr.c 8 (H ++ [Blk.rw 0 6 x.c]) [Blk.rw 0 8 (Wr.c ⟨(i : Int), ⟨true, x⟩⟩)] (.sl (H.length + 1) 0 0 1 true) [⟨(i : Int), ⟨true, x⟩⟩] := by
                  refine Or.inr ⟨H.length + 1, 0, true, by simp, rfl, ?_⟩
                  rw [List.append_assoc, List.getElem?_append_right (by omega), show H.length + 1 - H.length = 1 by omega, cat_one]; rfl
                obtain ⟨v', L', hfin, hg'⟩ := hone.keep Wr.fl
                have ff := finish_two 0 hfin hone.notup
                simp only [List.append_assoc, List.cons_append, List.nil_append] at ff
                simp only [f49b0, go_sem, Nat.reduceAdd, Nat.reduceMul, Nat.reduceSub, Nat.reduceBEq, Nat.reduceEqDiff, Nat.reduceLeDiff, Nat.reduceLT, Nat.reduceBneDiff, Int.reduceAdd, Int.cast_ofNat_Int, Int.toNat_natCast, Int.reduceLE, Int.reduceLT, Int.reduceToNat, Int.reduceEq, ↓reduceIte, i0, i3, i6, i7, i8, i9, i10, hlen, d, E.adr, E.adr', E.cel, E.cel', E.all, E.all', E.part, E.part', E.part0, E.part0', E.one, E.one', E.one0, E.one0', hsok, ge_iff_le, g1, g2, ff]
                exact ⟨v', L', rfl, rfl, hg'⟩
              · have g2 : decide ((i : Int) < (to : Int)) = false := by rw [decide_eq_false_iff_not]; omega
                have g3 : decide ((to : Int) ≤ (i : Int)) = true := by rw [decide_eq_true_eq]; omega
                have hsn := frees_snoc (show to ≤ i by omega) hs
                rw [hsok, if_neg (by simp)] at hsn
                cases hh : (frees l to i).head? with
                | none =>
                  rw [hh] at i8
                  have hnil := List.head?_eq_none_iff.1 hh
                  have d5 : decide ((-1 : Int) < 0) = true := rfl
                  simp only [optI] at i8
                  simp only [f49b0, go_sem, Nat.reduceAdd, Nat.reduceMul, Nat.reduceSub, Nat.reduceBEq, Nat.reduceEqDiff, Nat.reduceLeDiff, Nat.reduceLT, Nat.reduceBneDiff, Int.reduceAdd, Int.cast_ofNat_Int, Int.toNat_natCast, Int.reduceLE, Int.reduceLT, Int.reduceToNat, Int.reduceEq, ↓reduceIte, i0, i3, i6, i7, i8, i9, i10, hlen, d, E.adr, E.adr', E.cel, E.cel', E.all, E.all', E.part, E.part', E.part0, E.part0', E.one, E.one', E.one0, E.one0', hsok, ge_iff_le, g1, g2, g3, g4, d5, a1]
                  exact ⟨m, by omega, i + 1, by omega, by rw [show min (i + 1) to = min i to by omega]; exact hg, by rw [hsn, hnil]; simp [optI], by rw [hfm], rfl⟩
                | some k0 =>
                  rw [hh] at i8
                  have d5 : decide ((k0 : Int) < 0) = false := by rw [decide_eq_false_iff_not]; omega
                  simp only [optI] at i8
                  simp only [f49b0, go_sem, Nat.reduceAdd, Nat.reduceMul, Nat.reduceSub, Nat.reduceBEq, Nat.reduceEqDiff, Nat.reduceLeDiff, Nat.reduceLT, Nat.reduceBneDiff, Int.reduceAdd, Int.cast_ofNat_Int, Int.toNat_natCast, Int.reduceLE, Int.reduceLT, Int.reduceToNat, Int.reduceEq, ↓reduceIte, i0, i3, i6, i7, i8, i9, i10, hlen, d, E.adr, E.adr', E.cel, E.cel', E.all, E.all', E.part, E.part', E.part0, E.part0', E.one, E.one', E.one0, E.one0', hsok, ge_iff_le, g1, g2, g3, g4, d5, a1]
                  exact ⟨m, by omega, i + 1, by omega, by rw [show min (i + 1) to = min i to by omega]; exact hg, by rw [hsn, List.head?_append, hh]; rfl, by rw [hfm], rfl⟩
            · have g1 : decide ((fr : Int) ≤ (i : Int)) = false := by rw [decide_eq_false_iff_not]; omega
              have g3 : decide ((to : Int) ≤ (i : Int)) = false := by rw [decide_eq_false_iff_not]; omega
              have g4 : decide ((i : Int) < (fr : Int)) = true := by rw [decide_eq_true_eq]; omega
              have hsn := frees_snoc (show 0 ≤ i by omega) hs
              rw [hsok, if_neg (by simp)] at hsn
              have e1 : frees l to i = [] := frees_none l (by omega)
              have e2 : frees l to (i + 1) = [] := frees_none l (by omega)
              rw [e1] at i8
              simp only [f49b0, go_sem, Nat.reduceAdd, Nat.reduceMul, Nat.reduceSub, Nat.reduceBEq, Nat.reduceEqDiff, Nat.reduceLeDiff, Nat.reduceLT, Nat.reduceBneDiff, Int.reduceAdd, Int.cast_ofNat_Int, Int.toNat_natCast, Int.reduceLE, Int.reduceLT, Int.reduceToNat, Int.reduceEq, ↓reduceIte, i0, i3, i6, i7, i8, i9, i10, hlen, d, E.adr, E.adr', E.cel, E.cel', E.all, E.all', E.part, E.part', E.part0, E.part0', E.one, E.one', E.one0, E.one0', hsok, ge_iff_le, g1, g3, g4, a1]
              exact ⟨m, by omega, i + 1, by omega, frees_none l (by omega), by rw [e2], by rw [show min (i + 1) fr = i + 1 by omega, hsn]; simp [optI], rfl⟩
          · simp only [f49b0, go_sem, Nat.reduceAdd, Nat.reduceMul, Nat.reduceSub, Nat.reduceBEq, Nat.reduceEqDiff, Nat.reduceLeDiff, Nat.reduceLT, Nat.reduceBneDiff, Int.reduceAdd, Int.cast_ofNat_Int, Int.toNat_natCast, Int.reduceLE, Int.reduceLT, Int.reduceToNat, Int.reduceEq, ↓reduceIte, i0, i3, i6, i7, i8, i9, i10, hlen, d, E.adr, E.adr', E.cel, E.cel', E.all, E.all', E.part, E.part', E.part0, E.part0', E.one, E.one', E.one0, E.one0', hsok, a1]
            exact ⟨m, by omega, i + 1, by omega, by rw [frees_min_ok hs hsok]; exact hg, by rw [frees_ok hs hsok], by rw [frees_min_ok hs hsok], rfl⟩
      · refine ⟨0, by omega, frees_none l (by omega), ?_, ?_, by simp only [go_sem, Nat.reduceAdd, Nat.reduceMul, Nat.reduceSub, Nat.reduceBEq, Nat.reduceEqDiff, Nat.reduceLeDiff, Nat.reduceLT, Nat.reduceBneDiff, Int.reduceAdd, Int.cast_ofNat_Int, Int.toNat_natCast, Int.reduceLE, Int.reduceLT, Int.reduceToNat, Int.reduceEq, ↓reduceIte], by simp only [go_sem, Nat.reduceAdd, Nat.reduceMul, Nat.reduceSub, Nat.reduceBEq, Nat.reduceEqDiff, Nat.reduceLeDiff, Nat.reduceLT, Nat.reduceBneDiff, Int.reduceAdd, Int.cast_ofNat_Int, Int.toNat_natCast, Int.reduceLE, Int.reduceLT, Int.reduceToNat, Int.reduceEq, ↓reduceIte], by simp only [go_sem, Nat.reduceAdd, Nat.reduceMul, Nat.reduceSub, Nat.reduceBEq, Nat.reduceEqDiff, Nat.reduceLeDiff, Nat.reduceLT, Nat.reduceBneDiff, Int.reduceAdd, Int.cast_ofNat_Int, Int.toNat_natCast, Int.reduceLE, Int.reduceLT, Int.reduceToNat, Int.reduceEq, ↓reduceIte], by simp only [go_sem, Nat.reduceAdd, Nat.reduceMul, Nat.reduceSub, Nat.reduceBEq, Nat.reduceEqDiff, Nat.reduceLeDiff, Nat.reduceLT, Nat.reduceBneDiff, Int.reduceAdd, Int.cast_ofNat_Int, Int.toNat_natCast, Int.reduceLE, Int.reduceLT, Int.reduceToNat, Int.reduceEq, ↓reduceIte], by simp only [go_sem, Nat.reduceAdd, Nat.reduceMul, Nat.reduceSub, Nat.reduceBEq, Nat.reduceEqDiff, Nat.reduceLeDiff, Nat.reduceLT, Nat.reduceBneDiff, Int.reduceAdd, Int.cast_ofNat_Int, Int.toNat_natCast, Int.reduceLE, Int.reduceLT, Int.reduceToNat, Int.reduceEq, ↓reduceIte], by simp only [go_sem, Nat.reduceAdd, Nat.reduceMul, Nat.reduceSub, Nat.reduceBEq, Nat.reduceEqDiff, Nat.reduceLeDiff, Nat.reduceLT, Nat.reduceBneDiff, Int.reduceAdd, Int.cast_ofNat_Int, Int.toNat_natCast, Int.reduceLE, Int.reduceLT, Int.reduceToNat, Int.reduceEq, ↓reduceIte]⟩
        · simp only [go_sem, Nat.reduceAdd, Nat.reduceMul, Nat.reduceSub, Nat.reduceBEq, Nat.reduceEqDiff, Nat.reduceLeDiff, Nat.reduceLT, Nat.reduceBneDiff, Int.reduceAdd, Int.cast_ofNat_Int, Int.toNat_natCast, Int.reduceLE, Int.reduceLT, Int.reduceToNat, Int.reduceEq, ↓reduceIte, frees_none l (Nat.zero_le to)]; rfl
        · simp only [go_sem, Nat.reduceAdd, Nat.reduceMul, Nat.reduceSub, Nat.reduceBEq, Nat.reduceEqDiff, Nat.reduceLeDiff, Nat.reduceLT, Nat.reduceBneDiff, Int.reduceAdd, Int.cast_ofNat_Int, Int.toNat_natCast, Int.reduceLE, Int.reduceLT, Int.reduceToNat, Int.reduceEq, ↓reduceIte, Nat.zero_min, frees_self]; rfl
end Go.Proofs.Ytmjanbhmpbhagaa.C
