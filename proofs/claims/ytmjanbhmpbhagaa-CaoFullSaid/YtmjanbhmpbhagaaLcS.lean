/- THE LAWS' FUNCTIONS CaoInserts, CaoOne, CaoGapTells are true whatever comes in. Conditions: the slice shows the slots. -/
import Derived.Test.YtmjanbhmpbhagaaLcQ
import Derived.Test.YtmjanbhmpbhagaaLcH
set_option linter.unusedVariables false
set_option linter.unusedSimpArgs false
namespace Go.AM
theorem meet_symm (x y : Wd) : x.meet y = y.meet x := by
  rw [Bool.eq_iff_iff, meet_iff, meet_iff]
  exact ⟨fun h k hk a b => (h k hk b a).symm, fun h k hk a b => (h k hk b a).symm⟩
/-- The chain order, slot by slot. -/
def ordS (l : List Sl) : Prop := l.Pairwise fun a b => a.ok = true → b.ok = true → b.e.above a.e = false
theorem ordered_ents (l : List Sl) : ordered (ents l) = true ↔ ordS l := by
  unfold ordered ents ordS
  rw [decide_eq_true_eq, List.pairwise_map, List.pairwise_filter]
theorem ordS_get (l : List Sl) : ordS l ↔ ∀ (i j : Nat) (a b : Sl), i < j → l[i]? = some a → l[j]? = some b → a.ok = true → b.ok = true → b.e.above a.e = false := by
  unfold ordS
  rw [List.pairwise_iff_getElem]
  constructor
  · intro h i j a b hij ha hb
    obtain ⟨h1, rfl⟩ := List.getElem?_eq_some_iff.1 ha
    obtain ⟨h2, rfl⟩ := List.getElem?_eq_some_iff.1 hb
    exact h i j h1 h2 hij
  · intro h i j h1 h2 hij
    exact h i j _ _ hij (List.getElem?_eq_getElem h1) (List.getElem?_eq_getElem h2)
/-- An entry may stand where its gap is. -/
theorem gap_tells (l : List Sl) (x : En) (k : Nat) (s : Sl) (hs : l[k]? = some s) (hok : s.ok = false) (ho : ordered (ents l) = true) :
    ordered (ents (l.set k ⟨true, x⟩)) = (decide (hiN l l.length x ≤ k) && decide (k < lowN l 0 x)) := by
  have hk := (List.getElem?_eq_some_iff.1 hs).1
  rw [ordered_ents, ordS_get] at ho
  rw [Bool.eq_iff_iff, ordered_ents, ordS_get, Bool.and_eq_true, decide_eq_true_eq, decide_eq_true_eq]
  have get : ∀ j, (l.set k (⟨true, x⟩ : Sl))[j]? = if j = k then some ⟨true, x⟩ else l[j]? := by
    intro j
    by_cases e : j = k
    · subst e; rw [List.getElem?_set_self hk, if_pos rfl]
    · rw [List.getElem?_set_ne (Ne.symm e), if_neg e]
  constructor
  · intro h
    constructor
    · -- the last above lies ahead
      apply Nat.le_of_not_lt
      intro hlt
      obtain ⟨j, hj⟩ : ∃ j, hiN l l.length x = j + 1 := ⟨hiN l l.length x - 1, by omega⟩
      obtain ⟨t, ht, hp⟩ := lastN_at (fun s => s.ok && s.e.above x) l l.length j hj
      simp only [Bool.and_eq_true] at hp
      have hjk : j ≠ k := by intro e; subst e; rw [hs] at ht; cases ht; rw [hok] at hp; cases hp.1
      have := h k j ⟨true, x⟩ t (by omega) (by rw [get, if_pos rfl]) (by rw [get, if_neg hjk]; exact ht) rfl hp.1
      rw [hp.2] at this; cases this
    · apply Nat.lt_of_not_le
      intro hle
      have hlt : lowN l 0 x < l.length := by omega
      obtain ⟨t, ht, hp⟩ := firstN_at (fun s => s.ok && x.above s.e) l (l.length - 0) 0 (by omega) hlt
      simp only [Bool.and_eq_true] at hp
      have ht' : l[lowN l 0 x]? = some t := ht
      have hjk : lowN l 0 x ≠ k := by intro e; rw [e, hs] at ht'; cases ht'; rw [hok] at hp; cases hp.1
      have := h (lowN l 0 x) k t ⟨true, x⟩ (by omega) (by rw [get, if_neg hjk]; exact ht') (by rw [get, if_pos rfl]) hp.1 rfl
      rw [hp.2] at this; cases this
  · rintro ⟨h1, h2⟩ i j a b hij ha hb hao hbo
    rw [get] at ha hb
    by_cases ei : i = k
    · rw [if_pos ei] at ha
      cases ha
      rw [if_neg (by omega)] at hb
      have := lastN_not (fun s => s.ok && s.e.above x) l l.length j b (by unfold hiN at h1; omega) (List.getElem?_eq_some_iff.1 hb).1 hb
      simp only [hbo, Bool.true_and] at this
      exact this
    · rw [if_neg ei] at ha
      by_cases ej : j = k
      · rw [if_pos ej] at hb
        cases hb
        have := firstN_not (fun s => s.ok && x.above s.e) l (l.length - 0) 0 i a (Nat.zero_le _) (by unfold lowN at h2; omega) ha
        simp only [hao, Bool.true_and] at this
        exact this
      · rw [if_neg ej] at hb
        exact ho i j a b hij ha hb hao hbo
theorem above_meet {x y : En} (h : x.above y = true) : x.w.meet y.w = true := by
  unfold En.above at h
  simp only [Bool.and_eq_true] at h
  exact h.2
/-- An entry that meets no other one. -/
theorem one_alone (l : List Sl) (x : En) (hr : x.right = true) (ho : ordered (ents l) = true) (hm : ∀ s ∈ l, s.ok = true → s.e.w.meet x.w = false) (k : Nat) (hk : (frees l 0 l.length).head? = some k) : caoW l x = ([⟨(k : Int), ⟨true, x⟩⟩], 0) := by
  have h1 : hiN l l.length x = 0 := by
    apply Nat.eq_zero_of_not_pos
    intro hpos
    obtain ⟨j, hj⟩ : ∃ j, hiN l l.length x = j + 1 := ⟨hiN l l.length x - 1, by omega⟩
    obtain ⟨t, ht, hp⟩ := lastN_at (fun s => s.ok && s.e.above x) l l.length j hj
    simp only [Bool.and_eq_true] at hp
    have := above_meet hp.2
    rw [hm t (List.mem_of_getElem? ht) hp.1] at this; cases this
  have h2 : lowN l 0 x = l.length := by
    apply Nat.le_antisymm (firstN_le _ _ _ _ (Nat.zero_le _))
    apply Nat.le_of_not_lt
    intro hlt
    obtain ⟨t, ht, hp⟩ := firstN_at (fun s => s.ok && x.above s.e) l (l.length - 0) 0 (by omega) hlt
    simp only [Bool.and_eq_true] at hp
    have := above_meet hp.2
    rw [meet_symm, hm t (List.mem_of_getElem? ht) hp.1] at this; cases this
  unfold caoW
  rw [hr, ho, h1, h2, if_neg (by simp), if_neg (by simp), hk]
  rfl
theorem frees_head (l : List Sl) (h : (ents l).length ≠ l.length) : ∃ k, (frees l 0 l.length).head? = some k := by
  cases hf : frees l 0 l.length with
  | cons a r => exact ⟨a, rfl⟩
  | nil =>
    exfalso
    apply h
    have hall : ∀ s ∈ l, s.ok = true := by
      intro s hs
      obtain ⟨i, hi⟩ := List.getElem?_of_mem hs
      cases hb : s.ok
      · have : i ∈ frees l 0 l.length := mem_frees.2 ⟨Nat.zero_le _, (List.getElem?_eq_some_iff.1 hi).1, s, hi, hb⟩
        rw [hf] at this; cases this
      · rfl
    unfold ents
    rw [List.length_map, List.filter_eq_self.2 hall]
end Go.AM
namespace Go.Proofs.Ytmjanbhmpbhagaa.C
open Go.AM
variable {hook : Nat → Nat → List AV → Heap → Option (AV × Heap)} {lim : Nat} {H : Heap}
theorem ev_awake13 : ev (PX hook) lim 30 [] H = some (.bool true, H) := by
  refine ev_own _ (PF t30) rfl (by decide) ?_
  have fz := fill3e ⟨true, sE 8⟩ ⟨true, sE 0⟩
  have hl0 : Lst Sl.c 7 (H ++ [Blk.rw 0 7 (cat Sl.c l13)]) (.sl H.length 0 0 3 true) l13 := by
    have := Lst.lit Sl.len H [] l13 true
    rw [show (3 : Nat) = l13.length from rfl]
    exact this
  obtain ⟨v1, L1, h1, g1⟩ := ev_caoInsert (hook := hook) (lim := H.length) _ l13 (sE 16) hl0 (by decide)
  have w1 : caoW l13 (sE 16) = ([⟨2, ⟨true, sE 0⟩⟩, ⟨1, ⟨true, sE 8⟩⟩, ⟨0, ⟨true, sE 16⟩⟩], 0) := by decide +kernel
  rw [w1] at h1 g1
  have m1 := g1.lst
  obtain ⟨i1, r1, p1, E⟩ := m1.at (by omega) Wr.len (k := 0) rfl
  obtain ⟨i2, r2, p2, F⟩ := m1.at (by omega) Wr.len (k := 1) rfl
  obtain ⟨i3, r3, p3, K⟩ := m1.at (by omega) Wr.len (k := 2) rfl
  have kp := ev_caoKept (hook := hook) (lim := H.length) _ l13 (hl0.more L1) (by decide)
  have kb : ordered (ents l13) = true := by decide +kernel
  rw [kb] at kp
  obtain ⟨v2, L2, h2, g2⟩ := ev_Entries (hook := hook) (lim := H.length) _ l13 (hl0.more L1) (by decide)
  have we : ents l13 = [sE 8, sE 0] := by decide +kernel
  rw [we] at g2
  have ss : eSort [sE 8, sE 0] = [sE 8, sE 0] := by
    apply sort_of_sorted
    unfold Sorted
    rw [List.pairwise_cons]
    refine ⟨?_, List.pairwise_singleton _ _⟩
    intro a ha
    rw [List.mem_singleton] at ha
    subst ha
    decide +kernel
  have h3 := ev_chain2 (hook := hook) (lim := H.length) v2 _ _ g2.lst ss (by decide +kernel)
  have a1 := E.adr'
  have a2 := E.all'
  have a3 := F.adr'
  have a4 := F.all'
  have a5 := K.adr'
  have a6 := K.all'
  have n1 := m1.len'
  have z0 : ((0 : Nat) : Int) = 0 := rfl
  have z1 : ((1 : Nat) : Int) = 1 := rfl
  have z2 : ((2 : Nat) : Int) = 2 := rfl
  have z3 : ((3 : Nat) : Int) = 3 := rfl
  simp only [List.append_assoc, List.cons_append, List.nil_append, List.length_cons, List.length_nil, Nat.zero_add, Nat.reduceAdd, z0, z1, z2, z3] at h1 h2 h3 kp a1 a2 a3 a4 a5 a6 n1
  have dd : ∀ x : Wr, decide (x = x) = true := fun x => by simp
  have b0 : ((0 : Int) == 0) = true := rfl
  have b1 : ((3 : Int) == 3) = true := rfl
  have b2 : ((2 : Int) == 2) = true := rfl
  have fl : ∀ s : Sl, fldV 1 6 true (.agg s.c) = some (.agg s.e.c) := fun s => rfl
  simp only [f30, go_sem, Nat.reduceAdd, Nat.reduceMul, Nat.reduceSub, Nat.reduceBEq, Nat.reduceEqDiff, Nat.reduceLeDiff, Nat.reduceLT, Nat.reduceBneDiff, Int.reduceAdd, Int.cast_ofNat_Int, Int.toNat_natCast, Int.reduceLE, Int.reduceLT, Int.reduceToNat, Int.reduceEq, ↓reduceIte, ev_slot, fz, show [(⟨true, sE 8⟩ : Sl), ⟨true, sE 0⟩, Sl.z] = l13 from rfl, fl, h1, h2, h3, kp, a1, a2, a3, a4, a5, a6, n1, dd, b0, b1, b2]
theorem caoInserts_true (v : AV) (l : List Sl) (x : En) (hv : Lst Sl.c 7 H v l) : ev (PX hook) lim 7 [v, .agg x.c] H = some (.bool true, H) := by
  refine ev_own _ (PF t7) rfl (by decide) ?_
  have hlen := hv.len
  by_cases hn : l.length ≤ 20
  · have d : decide ((20 : Int) < (l.length : Int)) = false := by rw [decide_eq_false_iff_not]; omega
    have hv1 := hv.more [Blk.rw 0 6 x.c]
    obtain ⟨v1, L1, h1, g1⟩ := ev_law08Of (hook := hook) (lim := H.length) v l hv1 (by omega)
    have hv2 := hv1.more L1
    obtain ⟨v2, L2, h2, g2⟩ := ev_caoInsert (hook := hook) (lim := H.length) v l x hv2 (by omega)
    obtain ⟨v3, L3, h3, g3⟩ := ev_rInsert (hook := hook) (lim := H.length) v1 l x (g1.lst.more L2) (by omega)
    have hwl : (caoW l x).1.length < 1000000 := by
      unfold caoW
      split
      · simp
      · split
        · simp
        · split
          · simp [writesW, pairsW]
          · have hlb := wayB_len l (l.length + 1) (lowN l 0 x) []
            have hla := wayA_len l (l.length + 1) (hiN l l.length x) []
            simp only [List.length_nil, Nat.zero_add] at hlb hla
            simp only
            split
            · simp
            · split
              · rw [writesW_len]; omega
              · rw [writesW_len]; omega
    have hw := ev_law12Writes (hook := hook) (lim := H.length) v2 v3 _ _ (g2.lst.more L3) g3.lst hwl
    have hww : decide ((caoW l x).1 = (caoW l x).1) = true := by simp
    have hll : decide (l = l) = true := by simp
    have hee : ((caoW l x).2 == (caoW l x).2) = true := by simp
    rw [hww] at hw
    have hs := ev_law08Same (hook := hook) (lim := H.length) v v1 l l ((hv2.more L2).more L3) ((g1.lst.more L2).more L3) (by omega)
    rw [hll] at hs
    simp only [List.append_assoc, List.cons_append, List.nil_append] at h1 h2 h3 hw hs
    simp only [f7, go_sem, Nat.reduceAdd, Nat.reduceMul, Nat.reduceSub, Nat.reduceBEq, Nat.reduceEqDiff, Nat.reduceLeDiff, Nat.reduceLT, Nat.reduceBneDiff, Int.reduceAdd, Int.cast_ofNat_Int, Int.toNat_natCast, Int.reduceLE, Int.reduceLT, Int.reduceToNat, Int.reduceEq, ↓reduceIte, hlen, gt_iff_lt, d, h1, h2, ev_law05One, h3, hw, hee, hs, ev_awake13]
  · have d : decide ((20 : Int) < (l.length : Int)) = true := by rw [decide_eq_true_eq]; omega
    simp only [f7, go_sem, Nat.reduceAdd, Nat.reduceMul, Nat.reduceSub, Nat.reduceBEq, Nat.reduceEqDiff, Nat.reduceLeDiff, Nat.reduceLT, Nat.reduceBneDiff, Int.reduceAdd, Int.cast_ofNat_Int, Int.toNat_natCast, Int.reduceLE, Int.reduceLT, Int.reduceToNat, Int.reduceEq, ↓reduceIte, hlen, gt_iff_lt, d, ev_awake13]
theorem ev_Free (v : AV) (l : List Sl) (hv : Lst Sl.c 7 H v l) (hl : l.length < 1000000) : ev (PX hook) lim 41 [v] H = some (.int .i64 ((l.length : Int) - (ents l).length), H) := by
  refine ev_own _ (PF t41) rfl (by decide) ?_
  obtain ⟨v1, L1, h1, g1⟩ := ev_Entries (hook := hook) (lim := H.length) v l hv hl
  have hlen := hv.len'
  have n1 := g1.lst.len'
  have hle := ents_le l
  have a1 : IntKind.wrap .i64 ((l.length : Int) - ((ents l).length : Int)) = (l.length : Int) - (ents l).length := by rw [wrap_i64] <;> omega
  simp only [f41, go_sem, Nat.reduceAdd, Nat.reduceMul, Nat.reduceSub, Nat.reduceBEq, Nat.reduceEqDiff, Nat.reduceLeDiff, Nat.reduceLT, Nat.reduceBneDiff, Int.reduceAdd, Int.cast_ofNat_Int, Int.toNat_natCast, Int.reduceLE, Int.reduceLT, Int.reduceToNat, Int.reduceEq, ↓reduceIte, hlen, h1, n1, a1]
theorem caoOne_true (v : AV) (l : List Sl) (x : En) (hv : Lst Sl.c 7 H v l) : ev (PX hook) lim 10 [v, .agg x.c] H = some (.bool true, H) := by
  refine ev_own _ (PF t10) rfl (by decide) ?_
  have hlen := hv.len
  by_cases hn : l.length ≤ 20
  · have d : decide ((20 : Int) < (l.length : Int)) = false := by rw [decide_eq_false_iff_not]; omega
    have hv1 := hv.more [Blk.rw 0 6 x.c]
    have hk := ev_caoKept (hook := hook) (lim := H.length) v l hv1 (by omega)
    have hf := ev_Free (hook := hook) (lim := H.length) v l hv1 (by omega)
    cases ho : ordered (ents l)
    · rw [ho] at hk
      simp only [f10, go_sem, Nat.reduceAdd, Nat.reduceMul, Nat.reduceSub, Nat.reduceBEq, Nat.reduceEqDiff, Nat.reduceLeDiff, Nat.reduceLT, Nat.reduceBneDiff, Int.reduceAdd, Int.cast_ofNat_Int, Int.toNat_natCast, Int.reduceLE, Int.reduceLT, Int.reduceToNat, Int.reduceEq, ↓reduceIte, hlen, gt_iff_lt, d, hk, ev_awake13]
    · rw [ho] at hk
      cases hr : x.right
      · simp only [f10, go_sem, Nat.reduceAdd, Nat.reduceMul, Nat.reduceSub, Nat.reduceBEq, Nat.reduceEqDiff, Nat.reduceLeDiff, Nat.reduceLT, Nat.reduceBneDiff, Int.reduceAdd, Int.cast_ofNat_Int, Int.toNat_natCast, Int.reduceLE, Int.reduceLT, Int.reduceToNat, Int.reduceEq, ↓reduceIte, hlen, gt_iff_lt, d, hk, ev_ERight, hr, ev_awake13]
      · by_cases hfr : (ents l).length = l.length
        · have b0 : (((l.length : Int) - (ents l).length) == 0) = true := by rw [beq_iff_eq]; omega
          simp only [f10, go_sem, Nat.reduceAdd, Nat.reduceMul, Nat.reduceSub, Nat.reduceBEq, Nat.reduceEqDiff, Nat.reduceLeDiff, Nat.reduceLT, Nat.reduceBneDiff, Int.reduceAdd, Int.cast_ofNat_Int, Int.toNat_natCast, Int.reduceLE, Int.reduceLT, Int.reduceToNat, Int.reduceEq, ↓reduceIte, hlen, gt_iff_lt, d, hk, ev_ERight, hr, hf, b0, ev_awake13]
        · have b0 : (((l.length : Int) - (ents l).length) == 0) = false := by rw [beq_eq_false_iff_ne]; omega
          obtain ⟨k0, hk0⟩ := frees_head l hfr
          simp only [f10, go_sem, Nat.reduceAdd, Nat.reduceMul, Nat.reduceSub, Nat.reduceBEq, Nat.reduceEqDiff, Nat.reduceLeDiff, Nat.reduceLT, Nat.reduceBneDiff, Int.reduceAdd, Int.cast_ofNat_Int, Int.toNat_natCast, Int.reduceLE, Int.reduceLT, Int.reduceToNat, Int.reduceEq, ↓reduceIte, hlen, gt_iff_lt, d, hk, ev_ERight, hr, hf, b0]
          refine GO_loop _ (fun m e H' => ∃ (k : Nat) (G : Heap), k + m = l.length ∧ e 5 = .int .i64 (optI (frees l 0 k).head?) ∧ (∀ s ∈ l.take k, s.ok = true → s.e.w.meet x.w = false) ∧ e 0 = v ∧ e 3 = .ptr H.length 0 0 ∧ e 29 = v ∧ e 30 = .int .i64 (l.length : Int) ∧ e 31 = .int .i64 (k : Int) ∧ H' = H ++ (Blk.rw 0 6 x.c :: G)) ?_ l.length _ _ ?_
          · rintro m e H' ⟨k, G, hk', i5, hm, i0, i3, i29, i30, i31, rfl⟩
            cases m with
            | zero =>
              have hkl : k = l.length := by omega
              subst hkl
              rw [List.take_length] at hm
              rw [hk0] at i5
              simp only [optI] at i5
              have hvn : Lst Sl.c 7 (H ++ (Blk.rw 0 6 x.c :: G)) v l := hv.more _
              obtain ⟨v2, L2, h2, g2⟩ := ev_caoInsert (hook := hook) (lim := H.length) v l x hvn (by omega)
              rw [one_alone l x hr ho hm k0 hk0] at h2 g2
              have n2 := g2.lst.len'
              obtain ⟨id, ver, q, E⟩ := g2.lst.at (by omega) Wr.len (k := 0) rfl
              have a1 := E.adr'
              have a2 := E.cel'
              have a3 := E.one0' (by omega)
              have z0 : ((0 : Nat) : Int) = 0 := rfl
              have z1 : ((1 : Nat) : Int) = 1 := rfl
              simp only [List.append_assoc, List.cons_append, List.nil_append, List.length_cons, List.length_nil, Nat.zero_add, z0, z1] at h2 n2 a1 a2 a3
              have c0 : ((0 : Int) == 0) = true := rfl
              have c1 : ((1 : Int) == 1) = true := rfl
              have c2 : ((k0 : Int) == (k0 : Int)) = true := by simp
              simp only [f10b0, go_sem, Nat.reduceAdd, Nat.reduceMul, Nat.reduceSub, Nat.reduceBEq, Nat.reduceEqDiff, Nat.reduceLeDiff, Nat.reduceLT, Nat.reduceBneDiff, Int.reduceAdd, Int.cast_ofNat_Int, Int.toNat_natCast, Int.reduceLE, Int.reduceLT, Int.reduceToNat, Int.reduceEq, ↓reduceIte, i0, i3, i5, i29, i30, i31, lt_false, h2, n2, a1, a2, a3, c0, c1, c2, ev_awake13]
            | succ m =>
              obtain ⟨s, hs, _⟩ := get_of_lt (show k < l.length by omega)
              obtain ⟨id, ver, q, E⟩ := hv.at (by omega) Sl.len hs
              have d2 := lt_true (show k < l.length by omega)
              have a1 := wrap_succ (show k < 1000000 by omega)
              have hfs := frees_snoc (Nat.zero_le k) hs
              have hll : H.length ≤ H.length := Nat.le_refl _
              cases b1 : s.ok
              · rw [b1, if_neg (by simp)] at hfs
                have hm2 : ∀ t ∈ l.take (k + 1), t.ok = true → t.e.w.meet x.w = false := by
                  intro t ht hto
                  rw [take_succ_of hs, List.mem_append, List.mem_singleton] at ht
                  rcases ht with ht | rfl
                  · exact hm t ht hto
                  · rw [b1] at hto; cases hto
                cases hh : (frees l 0 k).head? with
                | none =>
                  rw [hh] at i5
                  have hnil : frees l 0 k = [] := List.head?_eq_none_iff.1 hh
                  have d3 : decide ((-1 : Int) < 0) = true := rfl
                  simp only [optI] at i5
                  simp only [f10b0, go_sem, Nat.reduceAdd, Nat.reduceMul, Nat.reduceSub, Nat.reduceBEq, Nat.reduceEqDiff, Nat.reduceLeDiff, Nat.reduceLT, Nat.reduceBneDiff, Int.reduceAdd, Int.cast_ofNat_Int, Int.toNat_natCast, Int.reduceLE, Int.reduceLT, Int.reduceToNat, Int.reduceEq, ↓reduceIte, i0, i3, i5, i29, i30, i31, d2, a1, E.adr, E.adr', E.cel, E.cel', E.all, E.all', E.part, E.part', E.part0, E.part0', E.one, E.one', E.one0, E.one0', b1, d3]
                  exact ⟨m, by omega, k + 1, G ++ [.rw 0 7 s.c], by omega, by rw [hfs, hnil]; rfl, hm2, rfl, rfl⟩
                | some j =>
                  rw [hh] at i5
                  have d3 : decide ((j : Int) < 0) = false := by rw [decide_eq_false_iff_not]; omega
                  simp only [optI] at i5
                  simp only [f10b0, go_sem, Nat.reduceAdd, Nat.reduceMul, Nat.reduceSub, Nat.reduceBEq, Nat.reduceEqDiff, Nat.reduceLeDiff, Nat.reduceLT, Nat.reduceBneDiff, Int.reduceAdd, Int.cast_ofNat_Int, Int.toNat_natCast, Int.reduceLE, Int.reduceLT, Int.reduceToNat, Int.reduceEq, ↓reduceIte, i0, i3, i5, i29, i30, i31, d2, a1, E.adr, E.adr', E.cel, E.cel', E.all, E.all', E.part, E.part', E.part0, E.part0', E.one, E.one', E.one0, E.one0', b1, d3]
                  exact ⟨m, by omega, k + 1, G ++ [.rw 0 7 s.c], by omega, by rw [hfs]; simp [List.head?_append, hh, optI], hm2, rfl, rfl⟩
              · rw [b1, if_pos rfl, List.append_nil] at hfs
                rw [← hfs] at i5
                cases b2 : s.e.w.meet x.w
                · simp only [f10b0, go_sem, Nat.reduceAdd, Nat.reduceMul, Nat.reduceSub, Nat.reduceBEq, Nat.reduceEqDiff, Nat.reduceLeDiff, Nat.reduceLT, Nat.reduceBneDiff, Int.reduceAdd, Int.cast_ofNat_Int, Int.toNat_natCast, Int.reduceLE, Int.reduceLT, Int.reduceToNat, Int.reduceEq, ↓reduceIte, i0, i3, i5, i29, i30, i31, d2, a1, E.adr, E.adr', E.cel, E.cel', E.all, E.all', E.part, E.part', E.part0, E.part0', E.one, E.one', E.one0, E.one0', b1, ev_WMeet, b2]
                  refine ⟨m, by omega, k + 1, G ++ [.rw 0 7 s.c], by omega, rfl, ?_, rfl, rfl⟩
                  intro t ht hto
                  rw [take_succ_of hs, List.mem_append, List.mem_singleton] at ht
                  rcases ht with ht | rfl
                  · exact hm t ht hto
                  · exact b2
                · simp only [f10b0, go_sem, Nat.reduceAdd, Nat.reduceMul, Nat.reduceSub, Nat.reduceBEq, Nat.reduceEqDiff, Nat.reduceLeDiff, Nat.reduceLT, Nat.reduceBneDiff, Int.reduceAdd, Int.cast_ofNat_Int, Int.toNat_natCast, Int.reduceLE, Int.reduceLT, Int.reduceToNat, Int.reduceEq, ↓reduceIte, i0, i3, i5, i29, i30, i31, d2, a1, E.adr, E.adr', E.cel, E.cel', E.all, E.all', E.part, E.part', E.part0, E.part0', E.one, E.one', E.one0, E.one0', b1, ev_WMeet, b2, ev_awake13]
          · exact ⟨0, [], by omega, by simp only [go_sem, Nat.reduceAdd, Nat.reduceMul, Nat.reduceSub, Nat.reduceBEq, Nat.reduceEqDiff, Nat.reduceLeDiff, Nat.reduceLT, Nat.reduceBneDiff, Int.reduceAdd, Int.cast_ofNat_Int, Int.toNat_natCast, Int.reduceLE, Int.reduceLT, Int.reduceToNat, Int.reduceEq, ↓reduceIte]; rfl, by simp, by simp only [go_sem, Nat.reduceAdd, Nat.reduceMul, Nat.reduceSub, Nat.reduceBEq, Nat.reduceEqDiff, Nat.reduceLeDiff, Nat.reduceLT, Nat.reduceBneDiff, Int.reduceAdd, Int.cast_ofNat_Int, Int.toNat_natCast, Int.reduceLE, Int.reduceLT, Int.reduceToNat, Int.reduceEq, ↓reduceIte], by simp only [go_sem, Nat.reduceAdd, Nat.reduceMul, Nat.reduceSub, Nat.reduceBEq, Nat.reduceEqDiff, Nat.reduceLeDiff, Nat.reduceLT, Nat.reduceBneDiff, Int.reduceAdd, Int.cast_ofNat_Int, Int.toNat_natCast, Int.reduceLE, Int.reduceLT, Int.reduceToNat, Int.reduceEq, ↓reduceIte], by simp only [go_sem, Nat.reduceAdd, Nat.reduceMul, Nat.reduceSub, Nat.reduceBEq, Nat.reduceEqDiff, Nat.reduceLeDiff, Nat.reduceLT, Nat.reduceBneDiff, Int.reduceAdd, Int.cast_ofNat_Int, Int.toNat_natCast, Int.reduceLE, Int.reduceLT, Int.reduceToNat, Int.reduceEq, ↓reduceIte], by simp only [go_sem, Nat.reduceAdd, Nat.reduceMul, Nat.reduceSub, Nat.reduceBEq, Nat.reduceEqDiff, Nat.reduceLeDiff, Nat.reduceLT, Nat.reduceBneDiff, Int.reduceAdd, Int.cast_ofNat_Int, Int.toNat_natCast, Int.reduceLE, Int.reduceLT, Int.reduceToNat, Int.reduceEq, ↓reduceIte], by simp only [go_sem, Nat.reduceAdd, Nat.reduceMul, Nat.reduceSub, Nat.reduceBEq, Nat.reduceEqDiff, Nat.reduceLeDiff, Nat.reduceLT, Nat.reduceBneDiff, Int.reduceAdd, Int.cast_ofNat_Int, Int.toNat_natCast, Int.reduceLE, Int.reduceLT, Int.reduceToNat, Int.reduceEq, ↓reduceIte], rfl⟩
  · have d : decide ((20 : Int) < (l.length : Int)) = true := by rw [decide_eq_true_eq]; omega
    simp only [f10, go_sem, Nat.reduceAdd, Nat.reduceMul, Nat.reduceSub, Nat.reduceBEq, Nat.reduceEqDiff, Nat.reduceLeDiff, Nat.reduceLT, Nat.reduceBneDiff, Int.reduceAdd, Int.cast_ofNat_Int, Int.toNat_natCast, Int.reduceLE, Int.reduceLT, Int.reduceToNat, Int.reduceEq, ↓reduceIte, hlen, gt_iff_lt, d, ev_awake13]
theorem caoGapTells_true (v : AV) (l : List Sl) (x : En) (k : Int) (hv : Lst Sl.c 7 H v l) : ev (PX hook) lim 11 [v, .agg x.c, .int .i64 k] H = some (.bool true, H) := by
  refine ev_own _ (PF t11) rfl (by decide) ?_
  have hlen := hv.len
  by_cases hn : l.length ≤ 20
  · have d : decide ((20 : Int) < (l.length : Int)) = false := by rw [decide_eq_false_iff_not]; omega
    have hv1 := hv.more [Blk.rw 0 6 x.c]
    have hk := ev_caoKept (hook := hook) (lim := H.length) v l hv1 (by omega)
    cases ho : ordered (ents l)
    · rw [ho] at hk
      simp only [f11, go_sem, Nat.reduceAdd, Nat.reduceMul, Nat.reduceSub, Nat.reduceBEq, Nat.reduceEqDiff, Nat.reduceLeDiff, Nat.reduceLT, Nat.reduceBneDiff, Int.reduceAdd, Int.cast_ofNat_Int, Int.toNat_natCast, Int.reduceLE, Int.reduceLT, Int.reduceToNat, Int.reduceEq, ↓reduceIte, hlen, gt_iff_lt, d, hk, ev_awake13]
    · rw [ho] at hk
      cases hr : x.right
      · simp only [f11, go_sem, Nat.reduceAdd, Nat.reduceMul, Nat.reduceSub, Nat.reduceBEq, Nat.reduceEqDiff, Nat.reduceLeDiff, Nat.reduceLT, Nat.reduceBneDiff, Int.reduceAdd, Int.cast_ofNat_Int, Int.toNat_natCast, Int.reduceLE, Int.reduceLT, Int.reduceToNat, Int.reduceEq, ↓reduceIte, hlen, gt_iff_lt, d, hk, ev_ERight, hr, ev_awake13]
      · by_cases hk0 : k < 0
        · have d1 : decide (k < 0) = true := by simp [hk0]
          simp only [f11, go_sem, Nat.reduceAdd, Nat.reduceMul, Nat.reduceSub, Nat.reduceBEq, Nat.reduceEqDiff, Nat.reduceLeDiff, Nat.reduceLT, Nat.reduceBneDiff, Int.reduceAdd, Int.cast_ofNat_Int, Int.toNat_natCast, Int.reduceLE, Int.reduceLT, Int.reduceToNat, Int.reduceEq, ↓reduceIte, hlen, gt_iff_lt, d, hk, ev_ERight, hr, d1, ev_awake13]
        · have d1 : decide (k < 0) = false := by simp [hk0]
          obtain ⟨n, rfl⟩ : ∃ n : Nat, k = (n : Int) := ⟨k.toNat, by omega⟩
          by_cases hkl : l.length ≤ n
          · have d2 : decide ((l.length : Int) ≤ (n : Int)) = true := by rw [decide_eq_true_eq]; omega
            simp only [f11, go_sem, Nat.reduceAdd, Nat.reduceMul, Nat.reduceSub, Nat.reduceBEq, Nat.reduceEqDiff, Nat.reduceLeDiff, Nat.reduceLT, Nat.reduceBneDiff, Int.reduceAdd, Int.cast_ofNat_Int, Int.toNat_natCast, Int.reduceLE, Int.reduceLT, Int.reduceToNat, Int.reduceEq, ↓reduceIte, hlen, gt_iff_lt, ge_iff_le, d, hk, ev_ERight, hr, d1, d2, ev_awake13]
          · have d2 : decide ((l.length : Int) ≤ (n : Int)) = false := by rw [decide_eq_false_iff_not]; omega
            obtain ⟨s, hs, _⟩ := get_of_lt (show n < l.length by omega)
            obtain ⟨id, ver, q, E⟩ := hv.at (by omega) Sl.len hs
            cases hok : s.ok
            · have hgap := ev_caoGap (hook := hook) (lim := H.length) v l x hv1 (by omega)
              have hw1 : Lst Wr.c 8 (H ++ [Blk.rw 0 6 x.c, .rw 0 8 (Wr.c ⟨(n : Int), ⟨true, x⟩⟩)]) (.sl (H.length + 1) 0 0 1 true) [⟨(n : Int), ⟨true, x⟩⟩] := by
                have := Lst.lit Wr.len (H ++ [Blk.rw 0 6 x.c]) [] [⟨(n : Int), ⟨true, x⟩⟩] true
                rw [cat_one] at this
                simpa using this
              obtain ⟨v2, L2, h2, g2⟩ := ev_Apply (hook := hook) (lim := H.length) v _ l _ (hv.more [Blk.rw 0 6 x.c, .rw 0 8 (Wr.c ⟨(n : Int), ⟨true, x⟩⟩)]) hw1 (by omega) (by simp)
              have hap : applyW l [⟨(n : Int), ⟨true, x⟩⟩] = l.set n ⟨true, x⟩ := by
                unfold applyW
                rw [List.foldl_cons, mayW_of (Or.inr ⟨rfl, hr⟩) (by omega), if_pos rfl]
                rfl
              rw [hap] at g2
              have hk2 := ev_caoKept (hook := hook) (lim := H.length) v2 _ (g2.lst Sl.len) (by rw [List.length_set]; omega)
              rw [gap_tells l x n s hs hok ho] at hk2
              simp only [List.append_assoc, List.cons_append, List.nil_append] at h2 hk2
              have e1 : decide ((hiN l l.length x : Int) ≤ (n : Int)) = decide (hiN l l.length x ≤ n) := by rw [decide_eq_decide]; omega
              have e2 : decide ((n : Int) < (lowN l 0 x : Int)) = decide (n < lowN l 0 x) := by rw [decide_eq_decide]; omega
              cases c1 : decide (hiN l l.length x ≤ n) <;> cases c2 : decide (n < lowN l 0 x) <;> rw [c1] at e1 <;> rw [c2] at e2 <;> rw [c1, c2] at hk2 <;>
                simp only [Bool.and_true, Bool.and_false, Bool.false_and, Bool.true_and] at hk2 <;>
                simp only [f11, go_sem, Nat.reduceAdd, Nat.reduceMul, Nat.reduceSub, Nat.reduceBEq, Nat.reduceEqDiff, Nat.reduceLeDiff, Nat.reduceLT, Nat.reduceBneDiff, Int.reduceAdd, Int.cast_ofNat_Int, Int.toNat_natCast, Int.reduceLE, Int.reduceLT, Int.reduceToNat, Int.reduceEq, ↓reduceIte, hlen, gt_iff_lt, ge_iff_le, d, hk, ev_ERight, hr, d1, d2, E.adr, E.adr', E.cel, E.cel', E.all, E.all', E.part, E.part', E.part0, E.part0', E.one, E.one', E.one0, E.one0', hok, hgap, h2, hk2, e1, e2, beq_self_eq_true, ev_awake13]
            · simp only [f11, go_sem, Nat.reduceAdd, Nat.reduceMul, Nat.reduceSub, Nat.reduceBEq, Nat.reduceEqDiff, Nat.reduceLeDiff, Nat.reduceLT, Nat.reduceBneDiff, Int.reduceAdd, Int.cast_ofNat_Int, Int.toNat_natCast, Int.reduceLE, Int.reduceLT, Int.reduceToNat, Int.reduceEq, ↓reduceIte, hlen, gt_iff_lt, ge_iff_le, d, hk, ev_ERight, hr, d1, d2, E.adr, E.adr', E.cel, E.cel', E.all, E.all', E.part, E.part', E.part0, E.part0', E.one, E.one', E.one0, E.one0', hok, ev_awake13]
  · have d : decide ((20 : Int) < (l.length : Int)) = true := by rw [decide_eq_true_eq]; omega
    simp only [f11, go_sem, Nat.reduceAdd, Nat.reduceMul, Nat.reduceSub, Nat.reduceBEq, Nat.reduceEqDiff, Nat.reduceLeDiff, Nat.reduceLT, Nat.reduceBneDiff, Int.reduceAdd, Int.cast_ofNat_Int, Int.toNat_natCast, Int.reduceLE, Int.reduceLT, Int.reduceToNat, Int.reduceEq, ↓reduceIte, hlen, gt_iff_lt, d, ev_awake13]
end Go.Proofs.Ytmjanbhmpbhagaa.C
