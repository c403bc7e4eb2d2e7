/- THE ORDER OF CHAINS: the document's Insert; the law's own 'awake'. Conditions: the slice shows the slots. -/
import Derived.Test.YtmjanbhmpbhagaaLcP
import Derived.Test.YtmjanbhmpbhagaaLcG
import Derived.Test.YtmjanbhmpbhagaaLdB
set_option linter.unusedVariables false
set_option linter.unusedSimpArgs false
namespace Go.AM
def sA : Adr := mkA 720857415355990016#64 0#64
def sE (n : Int) : En := En.ofP (cutA sA (near n)) (near n) 1
def l13 : List Sl := [⟨true, sE 8⟩, ⟨true, sE 0⟩, Sl.z]
theorem fill3e (a b : Sl) : fillV [.bool false, u64 0#64, u64 0#64, u64 0#64, u64 0#64, .int .i64 0, .int .i64 0, .bool false, u64 0#64, u64 0#64, u64 0#64, u64 0#64, .int .i64 0, .int .i64 0, .bool false, u64 0#64, u64 0#64, u64 0#64, u64 0#64, .int .i64 0, .int .i64 0] [(0, 7, .agg a.c), (7, 7, .agg b.c), (14, 7, .agg [.bool false, u64 0#64, u64 0#64, u64 0#64, u64 0#64, .int .i64 0, .int .i64 0])] = some (cat Sl.c [a, b, Sl.z]) := fill3 a b Sl.z
end Go.AM
namespace Go.Proofs.Ytmjanbhmpbhagaa.C
open Go.AM
variable {hook : Nat → Nat → List AV → Heap → Option (AV × Heap)} {lim : Nat} {H : Heap}
theorem ev_rInsert (v : AV) (l : List Sl) (x : En) (hv : Lst Sl.c 7 H v l) (hl : l.length < 500000) :
    ∃ v' L, ev (PX hook) lim 32 [v, .agg x.c] H = some (.tup [v', .int .i64 (caoW l x).2], H ++ L) ∧ Gr Wr.c 8 H L v' (caoW l x).1 := by
  suffices hs : EV (PX hook) lim 32 [v, .agg x.c] H fun r H' => ∃ v' L, r = .tup [v', .int .i64 (caoW l x).2] ∧ H' = H ++ L ∧ Gr Wr.c 8 H L v' (caoW l x).1 by
    rw [EV_iff] at hs; obtain ⟨r, H', h1, v', L, rfl, rfl, h2⟩ := hs; exact ⟨v', L, h1, h2⟩
  rw [EV_own _ (PF t32) rfl (by decide)]
  have hv1 := hv.more [Blk.rw 0 6 x.c]
  have hgap := ev_rGap (hook := hook) (lim := H.length) v l x hv1 (by omega)
  obtain ⟨ve, Le, hent, ge⟩ := ev_rEntries (hook := hook) (lim := H.length) v l hv1 (by omega)
  have hord := ev_rOrdered (hook := hook) (lim := H.length) ve (ents l) ge.lst (by have := ents_le l; omega)
  have hv2 := hv1.more Le
  simp only [List.append_assoc, List.cons_append, List.nil_append] at hent hord
  have nilf : ∀ (e : Int) (G : Heap), finish .slices H.length (.tup [.nils, .int .i64 e]) (H ++ G) = some (.tup [.nils, .int .i64 e], H) := fun e G => finish_two e (finish_nils _ _) (fun _ h => by cases h)
  have hlo : lowN l 0 x ≤ l.length := firstN_le _ _ _ _ (Nat.zero_le _)
  have hhi : hiN l l.length x ≤ l.length := lastN_le _ _ _
  have hlok : ∀ s, l[lowN l 0 x]? = some s → s.ok = true := by
    intro s hs
    obtain ⟨t, ht, hp⟩ := firstN_at (fun s => s.ok && x.above s.e) l (l.length - 0) 0 (by omega) (List.getElem?_eq_some_iff.1 hs).1
    rw [show l[lowN l 0 x]? = some t from ht] at hs
    cases hs
    simp only [Bool.and_eq_true] at hp
    exact hp.1
  have hhok : ∀ a s, hiN l l.length x = a + 1 → l[a]? = some s → s.ok = true := by
    intro a s ha hs
    obtain ⟨t, ht, hp⟩ := lastN_at (fun s => s.ok && s.e.above x) l l.length a ha
    rw [ht] at hs
    cases hs
    simp only [Bool.and_eq_true] at hp
    exact hp.1
  unfold caoW
  cases hr : x.right
  · simp only [f32, go_sem, Nat.reduceAdd, Nat.reduceMul, Nat.reduceSub, Nat.reduceBEq, Nat.reduceEqDiff, Nat.reduceLeDiff, Nat.reduceLT, Nat.reduceBneDiff, Int.reduceAdd, Int.cast_ofNat_Int, Int.toNat_natCast, Int.reduceLE, Int.reduceLT, Int.reduceToNat, Int.reduceEq, ↓reduceIte, ev_rRight8, hr, nilf]
    exact ⟨.nils, [], rfl, by simp, Gr.nil⟩
  · rw [if_neg (by simp)]
    cases ho : ordered (ents l)
    · rw [ho] at hord
      simp only [f32, go_sem, Nat.reduceAdd, Nat.reduceMul, Nat.reduceSub, Nat.reduceBEq, Nat.reduceEqDiff, Nat.reduceLeDiff, Nat.reduceLT, Nat.reduceBneDiff, Int.reduceAdd, Int.cast_ofNat_Int, Int.toNat_natCast, Int.reduceLE, Int.reduceLT, Int.reduceToNat, Int.reduceEq, ↓reduceIte, ev_rRight8, hr, hgap, hent, hord, nilf, true_or]
      exact ⟨.nils, [], rfl, by simp, Gr.nil⟩
    · rw [ho] at hord
      by_cases hlt : lowN l 0 x < hiN l l.length x
      · have d : decide ((lowN l 0 x : Int) < (hiN l l.length x : Int)) = true := by rw [decide_eq_true_eq]; omega
        rw [if_pos (Or.inr hlt)]
        simp only [f32, go_sem, Nat.reduceAdd, Nat.reduceMul, Nat.reduceSub, Nat.reduceBEq, Nat.reduceEqDiff, Nat.reduceLeDiff, Nat.reduceLT, Nat.reduceBneDiff, Int.reduceAdd, Int.cast_ofNat_Int, Int.toNat_natCast, Int.reduceLE, Int.reduceLT, Int.reduceToNat, Int.reduceEq, ↓reduceIte, ev_rRight8, hr, hgap, hent, hord, d, nilf]
        exact ⟨.nils, [], rfl, by simp, Gr.nil⟩
      · have d : decide ((lowN l 0 x : Int) < (hiN l l.length x : Int)) = false := by rw [decide_eq_false_iff_not]; omega
        rw [if_neg (by simp [hlt])]
        generalize hfrom : hiN l l.length x = from' at *
        generalize hto : lowN l 0 x = to at *
        obtain ⟨va, La, hbel, ga⟩ := ev_rBelow (hook := hook) (lim := H.length) v l to x hv2 hl hlo hlok
        have hv3 := hv2.more La
        obtain ⟨vb, Lb, habo, gb⟩ := ev_rAboveW (hook := hook) (lim := H.length) v l from' x hv3 hl hhi hhok
        have ma := ga.lst.more Lb
        have na := ma.len'
        have nb := gb.lst.len'
        have hlb := wayB_len l (l.length + 1) to []
        have hla := wayA_len l (l.length + 1) from' []
        simp only [List.length_nil, Nat.zero_add] at hlb hla
        rw [writesW_len] at na nb
        simp only [List.append_assoc, List.cons_append, List.nil_append] at hbel habo na nb
        simp only [f32, go_sem, Nat.reduceAdd, Nat.reduceMul, Nat.reduceSub, Nat.reduceBEq, Nat.reduceEqDiff, Nat.reduceLeDiff, Nat.reduceLT, Nat.reduceBneDiff, Int.reduceAdd, Int.cast_ofNat_Int, Int.toNat_natCast, Int.reduceLE, Int.reduceLT, Int.reduceToNat, Int.reduceEq, ↓reduceIte, ev_rRight8, hr, hgap, hent, hord, d]
        refine GO_loop _ (fun m e H' => ∃ i : Nat, i + m = to ∧ from' ≤ i ∧ frees l from' i = [] ∧ e 0 = v ∧ e 3 = .ptr H.length 0 0 ∧ e 6 = .int .i64 (from' : Int) ∧ e 7 = .int .i64 (to : Int) ∧ e 8 = .int .i64 (i : Int) ∧ H' = H ++ (Blk.rw 0 6 x.c :: Le)) ?_ (to - from') _ _ ?_
        · rintro m e H' ⟨i, hi, hfi, hfr, i0, i3, i6, i7, i8, rfl⟩
          cases m with
          | zero =>
            have hi' : i = to := by omega
            subst hi'
            rw [hfr]
            simp only [List.head?_nil]
            generalize wayB l (l.length + 1) i [] = b at *
            generalize wayA l (l.length + 1) from' [] = a at *
            have ga2 := ga
            have gb2 := gb
            by_cases hz : b.length + a.length = 0
            · have d4 : ((b.length : Int) == 0) = true := by rw [beq_iff_eq]; omega
              have d5 : ((a.length : Int) == 0) = true := by rw [beq_iff_eq]; omega
              rw [if_pos hz]
              simp only [f32b0, go_sem, Nat.reduceAdd, Nat.reduceMul, Nat.reduceSub, Nat.reduceBEq, Nat.reduceEqDiff, Nat.reduceLeDiff, Nat.reduceLT, Nat.reduceBneDiff, Int.reduceAdd, Int.cast_ofNat_Int, Int.toNat_natCast, Int.reduceLE, Int.reduceLT, Int.reduceToNat, Int.reduceEq, ↓reduceIte, i0, i3, i6, i7, i8, lt_false, hbel, habo, na, nb, d4, d5, nilf]
              exact ⟨.nils, [], rfl, by simp, Gr.nil⟩
            · rw [if_neg hz]
              by_cases hb0 : b.length = 0
              · have d4 : ((b.length : Int) == 0) = true := by rw [beq_iff_eq]; omega
                have d5 : ((a.length : Int) == 0) = false := by rw [beq_eq_false_iff_ne]; omega
                rw [if_pos (Or.inl hb0)]
                rw [List.append_assoc, List.append_assoc] at gb2
                obtain ⟨v', L', hfin, hg'⟩ := gb2.keep Wr.fl
                have ff := finish_two 0 hfin gb.notup
                simp only [List.append_assoc, List.cons_append, List.nil_append] at ff
                simp only [f32b0, go_sem, Nat.reduceAdd, Nat.reduceMul, Nat.reduceSub, Nat.reduceBEq, Nat.reduceEqDiff, Nat.reduceLeDiff, Nat.reduceLT, Nat.reduceBneDiff, Int.reduceAdd, Int.cast_ofNat_Int, Int.toNat_natCast, Int.reduceLE, Int.reduceLT, Int.reduceToNat, Int.reduceEq, ↓reduceIte, i0, i3, i6, i7, i8, lt_false, hbel, habo, na, nb, d4, d5, ff]
                exact ⟨v', L', rfl, rfl, hg'⟩
              · have d4 : ((b.length : Int) == 0) = false := by rw [beq_eq_false_iff_ne]; omega
                by_cases hc : 0 < a.length ∧ a.length < b.length
                · rw [if_pos (Or.inr hc)]
                  have d6 : decide ((0 : Int) < (a.length : Int)) = true := by rw [decide_eq_true_eq]; omega
                  have d7 := lt_true hc.2
                  rw [List.append_assoc, List.append_assoc] at gb2
                  obtain ⟨v', L', hfin, hg'⟩ := gb2.keep Wr.fl
                  have ff := finish_two 0 hfin gb.notup
                  simp only [List.append_assoc, List.cons_append, List.nil_append] at ff
                  simp only [f32b0, go_sem, Nat.reduceAdd, Nat.reduceMul, Nat.reduceSub, Nat.reduceBEq, Nat.reduceEqDiff, Nat.reduceLeDiff, Nat.reduceLT, Nat.reduceBneDiff, Int.reduceAdd, Int.cast_ofNat_Int, Int.toNat_natCast, Int.reduceLE, Int.reduceLT, Int.reduceToNat, Int.reduceEq, ↓reduceIte, i0, i3, i6, i7, i8, lt_false, hbel, habo, na, nb, d4, gt_iff_lt, d6, d7, ff]
                  exact ⟨v', L', rfl, rfl, hg'⟩
                · rw [if_neg (by intro h; rcases h with h | h; exact hb0 h; exact hc h)]
                  have gm : Gr Wr.c 8 (H ++ ([Blk.rw 0 6 x.c] ++ Le)) (La ++ Lb) va (writesW l x b) := by
                    rw [← List.append_assoc]; exact ga.ext Lb
                  obtain ⟨v', L', hfin, hg'⟩ := gm.keep Wr.fl
                  have ff := finish_two 0 hfin ga.notup
                  simp only [List.append_assoc, List.cons_append, List.nil_append] at ff
                  by_cases ha0 : 0 < a.length
                  · have d6 : decide ((0 : Int) < (a.length : Int)) = true := by rw [decide_eq_true_eq]; omega
                    have d7 : decide ((a.length : Int) < (b.length : Int)) = false := by rw [decide_eq_false_iff_not]; omega
                    simp only [f32b0, go_sem, Nat.reduceAdd, Nat.reduceMul, Nat.reduceSub, Nat.reduceBEq, Nat.reduceEqDiff, Nat.reduceLeDiff, Nat.reduceLT, Nat.reduceBneDiff, Int.reduceAdd, Int.cast_ofNat_Int, Int.toNat_natCast, Int.reduceLE, Int.reduceLT, Int.reduceToNat, Int.reduceEq, ↓reduceIte, i0, i3, i6, i7, i8, lt_false, hbel, habo, na, nb, d4, gt_iff_lt, d6, d7, ff]
                    exact ⟨v', L', rfl, rfl, hg'⟩
                  · have d6 : decide ((0 : Int) < (a.length : Int)) = false := by rw [decide_eq_false_iff_not]; omega
                    simp only [f32b0, go_sem, Nat.reduceAdd, Nat.reduceMul, Nat.reduceSub, Nat.reduceBEq, Nat.reduceEqDiff, Nat.reduceLeDiff, Nat.reduceLT, Nat.reduceBneDiff, Int.reduceAdd, Int.cast_ofNat_Int, Int.toNat_natCast, Int.reduceLE, Int.reduceLT, Int.reduceToNat, Int.reduceEq, ↓reduceIte, i0, i3, i6, i7, i8, lt_false, hbel, habo, na, nb, d4, gt_iff_lt, d6, ff]
                    exact ⟨v', L', rfl, rfl, hg'⟩
          | succ m =>
            obtain ⟨s, hs, _⟩ := get_of_lt (show i < l.length by omega)
            obtain ⟨id, ver, q, E⟩ := hv.at (by omega) Sl.len hs
            have d8 := lt_true (show i < to by omega)
            have a1 := wrap_succ (show i < 1000000 by omega)
            cases hsok : s.ok
            · have hhead : (frees l from' to).head? = some i := by
                rw [frees_split l hfi (show i ≤ to by omega), hfr, frees_split l (show i ≤ i + 1 by omega) (show i + 1 ≤ to by omega), frees_one hs, hsok]; rfl
              rw [hhead]
              have hvn : Lst Sl.c 7 (H ++ (Blk.rw 0 6 x.c :: Le)) v l := hv.more _
              obtain ⟨v1, L1, he, hg1⟩ := ev_rend (hook := hook) (lim := H.length) v .nils l [] i x hvn Lst.nil (by simp) (by simp)
              obtain ⟨v', L', hfin, hg'⟩ := hg1.keep Wr.fl
              have ff := finish_two 0 hfin hg1.notup
              simp only [List.append_assoc, List.cons_append, List.nil_append] at he ff
              simp only [f32b0, go_sem, Nat.reduceAdd, Nat.reduceMul, Nat.reduceSub, Nat.reduceBEq, Nat.reduceEqDiff, Nat.reduceLeDiff, Nat.reduceLT, Nat.reduceBneDiff, Int.reduceAdd, Int.cast_ofNat_Int, Int.toNat_natCast, Int.reduceLE, Int.reduceLT, Int.reduceToNat, Int.reduceEq, ↓reduceIte, i0, i3, i6, i7, i8, d8, E.adr, E.adr', E.cel, E.cel', E.all, E.all', E.part, E.part', E.part0, E.part0', E.one, E.one', E.one0, E.one0', hsok, he, ff]
              exact ⟨v', L', rfl, rfl, hg'⟩
            · simp only [f32b0, go_sem, Nat.reduceAdd, Nat.reduceMul, Nat.reduceSub, Nat.reduceBEq, Nat.reduceEqDiff, Nat.reduceLeDiff, Nat.reduceLT, Nat.reduceBneDiff, Int.reduceAdd, Int.cast_ofNat_Int, Int.toNat_natCast, Int.reduceLE, Int.reduceLT, Int.reduceToNat, Int.reduceEq, ↓reduceIte, i0, i3, i6, i7, i8, d8, E.adr, E.adr', E.cel, E.cel', E.all, E.all', E.part, E.part', E.part0, E.part0', E.one, E.one', E.one0, E.one0', hsok, a1]
              exact ⟨m, by omega, i + 1, by omega, by omega, by rw [frees_snoc hfi hs, hfr, hsok]; rfl, rfl⟩
        · exact ⟨from', by omega, Nat.le_refl _, frees_self _ _, by simp only [go_sem, Nat.reduceAdd, Nat.reduceMul, Nat.reduceSub, Nat.reduceBEq, Nat.reduceEqDiff, Nat.reduceLeDiff, Nat.reduceLT, Nat.reduceBneDiff, Int.reduceAdd, Int.cast_ofNat_Int, Int.toNat_natCast, Int.reduceLE, Int.reduceLT, Int.reduceToNat, Int.reduceEq, ↓reduceIte], by simp only [go_sem, Nat.reduceAdd, Nat.reduceMul, Nat.reduceSub, Nat.reduceBEq, Nat.reduceEqDiff, Nat.reduceLeDiff, Nat.reduceLT, Nat.reduceBneDiff, Int.reduceAdd, Int.cast_ofNat_Int, Int.toNat_natCast, Int.reduceLE, Int.reduceLT, Int.reduceToNat, Int.reduceEq, ↓reduceIte], by simp only [go_sem, Nat.reduceAdd, Nat.reduceMul, Nat.reduceSub, Nat.reduceBEq, Nat.reduceEqDiff, Nat.reduceLeDiff, Nat.reduceLT, Nat.reduceBneDiff, Int.reduceAdd, Int.cast_ofNat_Int, Int.toNat_natCast, Int.reduceLE, Int.reduceLT, Int.reduceToNat, Int.reduceEq, ↓reduceIte], by simp only [go_sem, Nat.reduceAdd, Nat.reduceMul, Nat.reduceSub, Nat.reduceBEq, Nat.reduceEqDiff, Nat.reduceLeDiff, Nat.reduceLT, Nat.reduceBneDiff, Int.reduceAdd, Int.cast_ofNat_Int, Int.toNat_natCast, Int.reduceLE, Int.reduceLT, Int.reduceToNat, Int.reduceEq, ↓reduceIte], by simp only [go_sem, Nat.reduceAdd, Nat.reduceMul, Nat.reduceSub, Nat.reduceBEq, Nat.reduceEqDiff, Nat.reduceLeDiff, Nat.reduceLT, Nat.reduceBneDiff, Int.reduceAdd, Int.cast_ofNat_Int, Int.toNat_natCast, Int.reduceLE, Int.reduceLT, Int.reduceToNat, Int.reduceEq, ↓reduceIte], rfl⟩
theorem ev_slot (n : Int) : ev (PX hook) lim 59 [.int .i64 n] H = some (.agg (Sl.c ⟨true, sE n⟩), H) := by
  refine ev_own _ (PF t59) rfl (by decide) ?_
  have hs1 : hi sA = 720857415355990016#64 := hi_mk _ _
  have hs2 : lo sA = 0#64 := lo_mk _ _
  have hm := fun lim H => ev_Make (hook := hook) (lim := lim) (H := H) sA n
  simp only [hs1, hs2] at hm
  have he := fun lim H => ev_EOf (hook := hook) (lim := lim) (H := H) (cutA sA (near n)) (near n : Int) 1
  have lit : AV.int .u64 720857415355990016 = u64 720857415355990016#64 := rfl
  simp only [f59, go_sem, Nat.reduceAdd, Nat.reduceMul, Nat.reduceSub, Nat.reduceBEq, Nat.reduceEqDiff, Nat.reduceLeDiff, Nat.reduceLT, Nat.reduceBneDiff, Int.reduceAdd, Int.cast_ofNat_Int, Int.toNat_natCast, Int.reduceLE, Int.reduceLT, Int.reduceToNat, Int.reduceEq, ↓reduceIte, lit, hm, he, sE]
theorem ev_chain2 (v : AV) (a b : En) (hv : Lst En.c 6 H v [a, b]) (hs : eSort [a, b] = [a, b]) (hab : a.above b = true) : ev (PX hook) lim 60 [v] H = some (.int .i64 2, H) := by
  refine ev_own _ (PF t60) rfl (by decide) ?_
  obtain ⟨v', L, h1, g1⟩ := ev_Sort (hook := hook) (lim := H.length) v [a, b] hv (by simp)
  rw [hs] at g1
  have hl := g1.lst En.len
  obtain ⟨w0, _, _, p0, _, l0⟩ := hl.sub En.len 0 0 (by omega) (by simp)
  obtain ⟨w1, _, _, p1, _, l1⟩ := hl.sub En.len 0 1 (by omega) (by simp)
  obtain ⟨p0, _⟩ := p0 rfl
  obtain ⟨p1, _⟩ := p1 rfl
  simp only [List.take_zero, List.drop_nil, List.take_succ_cons, List.drop_zero] at l0 l1
  obtain ⟨i1, r1, q1, E⟩ := hl.at (by omega) En.len (k := 0) rfl
  obtain ⟨i2, r2, q2, F⟩ := hl.at (by omega) En.len (k := 1) rfl
  obtain ⟨i3, r3, q3, K⟩ := l1.at (by omega) En.len (k := 0) rfl
  have n1 := hl.len
  have n1' := hl.len'
  have n2 := l0.len
  have n3 := l1.len
  have c1 := E.adr
  have c2 := E.all
  have c3 := F.adr
  have c4 := F.all
  have c5 := K.adr
  have c6 := K.all
  have z0 : ((0 : Nat) : Int) = 0 := rfl
  have z1 : ((1 : Nat) : Int) = 1 := rfl
  have z2 : ((2 : Nat) : Int) = 2 := rfl
  simp only [List.append_assoc, List.length_cons, List.length_nil, Nat.zero_add, Nat.reduceAdd, z0, z1, z2] at c1 c2 c3 c4 c5 c6 n1 n1' n2 n3 p0 p1
  have mk : ∀ X : Heap, mkSliceV X 1 8 [.int .i64 0] (.int .i64 2) (.int .i64 2) = some (.sl X.length 0 0 2 true, X ++ [.rw 0 1 [.int .i64 0, .int .i64 0]]) := by intro X; simp [mkSliceV, List.replicate]
  have d1 : decide ((0 : Int) < 2) = true := rfl
  have d2 : decide ((1 : Int) < 2) = true := rfl
  have d3 : decide ((2 : Int) < 2) = false := rfl
  have d4 : decide ((0 : Int) < 0) = false := rfl
  have d5 : decide ((0 : Int) < 1) = true := rfl
  have d6 : decide ((1 : Int) < 1) = false := rfl
  have w1' : IntKind.wrap .i64 1 = 1 := rfl
  have w2' : IntKind.wrap .i64 2 = 2 := rfl
  have q1 : (0 : Int) ≤ 0 := by decide
  have q2 : (0 : Int) < 2 := by decide
  have q3 : (0 : Int) ≤ 1 := by decide
  have q4 : (1 : Int) < 2 := by decide
  have x1 : (if (1 : Int) > 0 then (1 : Int) else 0) = 1 := rfl
  simp only [f60, go_sem, Nat.reduceAdd, Nat.reduceMul, Nat.reduceSub, Nat.reduceBEq, Nat.reduceEqDiff, Nat.reduceLeDiff, Nat.reduceLT, Nat.reduceBneDiff, Int.reduceAdd, Int.cast_ofNat_Int, Int.toNat_natCast, Int.reduceLE, Int.reduceLT, Int.reduceToNat, Int.reduceEq, ↓reduceIte, h1, n1', n1, mk]
  rw [GO_unroll]
  simp only [f60b1, go_sem, Nat.reduceAdd, Nat.reduceMul, Nat.reduceSub, Nat.reduceBEq, Nat.reduceEqDiff, Nat.reduceLeDiff, Nat.reduceLT, Nat.reduceBneDiff, Int.reduceAdd, Int.cast_ofNat_Int, Int.toNat_natCast, Int.reduceLE, Int.reduceLT, Int.reduceToNat, Int.reduceEq, ↓reduceIte, d1, c1, c2, q1, q2, p0, n2]
  rw [GO_unroll]
  simp only [f60b0, go_sem, Nat.reduceAdd, Nat.reduceMul, Nat.reduceSub, Nat.reduceBEq, Nat.reduceEqDiff, Nat.reduceLeDiff, Nat.reduceLT, Nat.reduceBneDiff, Int.reduceAdd, Int.cast_ofNat_Int, Int.toNat_natCast, Int.reduceLE, Int.reduceLT, Int.reduceToNat, Int.reduceEq, ↓reduceIte, d4, q1, q2, w1']
  rw [GO_unroll]
  simp only [f60b1, go_sem, Nat.reduceAdd, Nat.reduceMul, Nat.reduceSub, Nat.reduceBEq, Nat.reduceEqDiff, Nat.reduceLeDiff, Nat.reduceLT, Nat.reduceBneDiff, Int.reduceAdd, Int.cast_ofNat_Int, Int.toNat_natCast, Int.reduceLE, Int.reduceLT, Int.reduceToNat, Int.reduceEq, ↓reduceIte, d2, c3, c4, q3, q4, p1, n3]
  rw [GO_unroll]
  simp only [f60b0, go_sem, Nat.reduceAdd, Nat.reduceMul, Nat.reduceSub, Nat.reduceBEq, Nat.reduceEqDiff, Nat.reduceLeDiff, Nat.reduceLT, Nat.reduceBneDiff, Int.reduceAdd, Int.cast_ofNat_Int, Int.toNat_natCast, Int.reduceLE, Int.reduceLT, Int.reduceToNat, Int.reduceEq, ↓reduceIte, d5, c5, c6, ev_EAbove, hab, q1, q2, q3, q4, w1', w2']
  rw [GO_unroll]
  simp only [f60b0, go_sem, Nat.reduceAdd, Nat.reduceMul, Nat.reduceSub, Nat.reduceBEq, Nat.reduceEqDiff, Nat.reduceLeDiff, Nat.reduceLT, Nat.reduceBneDiff, Int.reduceAdd, Int.cast_ofNat_Int, Int.toNat_natCast, Int.reduceLE, Int.reduceLT, Int.reduceToNat, Int.reduceEq, ↓reduceIte, d6, q3, q4, w2']
  rw [GO_unroll]
  simp only [f60b1, go_sem, Nat.reduceAdd, Nat.reduceMul, Nat.reduceSub, Nat.reduceBEq, Nat.reduceEqDiff, Nat.reduceLeDiff, Nat.reduceLT, Nat.reduceBneDiff, Int.reduceAdd, Int.cast_ofNat_Int, Int.toNat_natCast, Int.reduceLE, Int.reduceLT, Int.reduceToNat, Int.reduceEq, ↓reduceIte, d3]
  rfl
end Go.Proofs.Ytmjanbhmpbhagaa.C
