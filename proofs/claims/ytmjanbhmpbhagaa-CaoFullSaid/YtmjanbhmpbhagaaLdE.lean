/- PREFIXES' ENTRIES: in an ordered row of them no gap ends ahead of its beginning; law13.prefixes. Conditions: the slice shows the entries. -/
import Derived.Test.YtmjanbhmpbhagaaLcS
import Derived.Test.YtmjanbhmpbhagaaAm21
import Derived.Test.YtmjanbhmpbhagaaLbQ
set_option linter.unusedVariables false
set_option linter.unusedSimpArgs false
namespace Go.AM
def prefP (e : En) : Bool := e.right && decide (e.w = Wd.ofP e.w.v e.n)
theorem eqW (x y : Wd) : eqLeaves [.int, .int, .int, .int] x.c y.c = some (decide (x = y)) := by
  rw [← beqW]
  simp only [Wd.c, go_sem, Nat.reduceAdd, Nat.reduceMul, Nat.reduceSub, Nat.reduceBEq, Nat.reduceEqDiff, Nat.reduceLeDiff, Nat.reduceLT, Nat.reduceBneDiff, Int.reduceAdd, Int.cast_ofNat_Int, Int.toNat_natCast, Int.reduceLE, Int.reduceLT, Int.reduceToNat, Int.reduceEq, ↓reduceIte]
theorem get_end' (B G : Heap) (b : Blk) : (B ++ (G ++ [b]))[B.length + G.length]? = some b := by
  rw [← List.append_assoc, List.getElem?_append_right (by simp)]; simp
theorem write_endE' (B G : Heap) (a b c d f g : AV) (x : En) (lim : Nat) : Heap.write (B ++ (G ++ [Blk.rw 0 6 [a, b, c, d, f, g]])) lim (B.length + G.length) 0 0 x.c = some (B ++ (G ++ [Blk.rw 0 6 x.c])) := by
  unfold Heap.write
  rw [get_end']
  simp only
  rw [if_pos ⟨trivial, by simp [En.c], fun _ => rfl⟩]
  rw [← List.append_assoc, List.set_append_right _ _ (by simp)]
  simp [putCells, En.c]
theorem cells_end' (B G : Heap) (sz : Nat) (cs : List AV) : Heap.cells (B ++ (G ++ [Blk.rw 0 sz cs])) (B.length + G.length) 0 = some cs := by
  simp [Heap.cells, get_end', Blk.ver, Blk.cells]
theorem mask_sub {a b : Nat} (h : a ≤ b) : maskA a &&& maskA b = maskA a := by
  refine bit_ext _ _ fun k hk => ?_
  rw [bit_and, bit_mask, bit_mask, Bool.eq_iff_iff]
  simp only [Bool.and_eq_true, decide_eq_true_eq]
  omega
theorem pref_mask {e : En} (h : prefP e = true) : e.w.m = maskA (near e.n) ∧ 0 ≤ e.n ∧ e.n ≤ 128 := by
  unfold prefP at h
  rw [Bool.and_eq_true, decide_eq_true_eq] at h
  obtain ⟨h1, h2⟩ := h
  unfold En.right at h1
  simp only [Bool.and_eq_true, decide_eq_true_eq] at h1
  exact ⟨by rw [h2]; rfl, h1.2.1, h1.2.2.1⟩
theorem meet_bits (x y : Wd) : x.meet y = true ↔ ∀ k, k < 128 → bitA x.m k = true → bitA y.m k = true → bitA x.v k = bitA y.v k := by
  unfold Wd.meet differA
  rw [beq_iff_eq]
  constructor
  · intro h k hk h1 h2
    have := congrArg (fun a => bitA a k) h
    simp only [bit_and, bit_xor, h1, h2, Bool.and_true] at this
    have hz : bitA (0#128) k = false := by unfold bitA; simp
    rw [hz] at this
    cases hx : bitA x.v k <;> cases hy : bitA y.v k <;> simp_all
  · intro h
    refine bit_ext _ _ fun k hk => ?_
    have hz : bitA (0#128) k = false := by unfold bitA; simp
    rw [hz, bit_and, bit_and, bit_xor]
    cases h1 : bitA x.m k
    · simp
    · cases h2 : bitA y.m k
      · simp
      · rw [h k hk h1 h2]; simp
/-- What is above what is above, among prefixes' entries. -/
theorem above_pref {a b c : En} (hb : prefP b = true) (hc : prefP c = true) (h1 : a.above b = true) (h2 : b.above c = true) (ha : prefP a = true) : a.above c = true := by
  obtain ⟨ma, _, _⟩ := pref_mask ha
  obtain ⟨mb, b0, _⟩ := pref_mask hb
  obtain ⟨mc, c0, _⟩ := pref_mask hc
  unfold En.above at h1 h2 ⊢
  rw [Bool.and_eq_true, decide_eq_true_eq] at *
  obtain ⟨n1, w1⟩ := h1
  obtain ⟨n2, w2⟩ := h2
  refine ⟨by omega, ?_⟩
  rw [meet_bits] at *
  intro k hk k1 k2
  have kb : bitA b.w.m k = true := by
    rw [mc, bit_mask] at k2
    rw [mb, bit_mask]
    simp only [Bool.and_eq_true, decide_eq_true_eq] at k2 ⊢
    unfold near at k2 ⊢
    omega
  rw [w1 k hk k1 kb, w2 k hk kb k2]
theorem gap_pref {l : List Sl} {x : En} (ho : ordered (ents l) = true) (hp : (ents l ++ [x]).all prefP = true) : hiN l l.length x ≤ lowN l 0 x := by
  apply Classical.byContradiction
  intro hlt
  have hle : hiN l l.length x ≤ l.length := lastN_le _ _ _
  obtain ⟨j, hj⟩ : ∃ j, hiN l l.length x = j + 1 := ⟨hiN l l.length x - 1, by omega⟩
  obtain ⟨s, hs, ps⟩ := lastN_at (fun s => s.ok && s.e.above x) l l.length j hj
  have hlow : lowN l 0 x = firstN (fun s => s.ok && x.above s.e) l l.length 0 := rfl
  obtain ⟨t, ht, pt⟩ := firstN_at (fun s => s.ok && x.above s.e) l l.length 0 (by omega) (by rw [← hlow]; omega)
  rw [← hlow] at ht
  simp only [Bool.and_eq_true] at ps pt
  rw [List.all_append, Bool.and_eq_true, List.all_eq_true] at hp
  have hx : prefP x = true := by simpa using hp.2
  have mem : ∀ (u : Sl) (k : Nat), l[k]? = some u → u.ok = true → prefP u.e = true := by
    intro u k hk hu
    refine hp.1 _ ?_
    unfold ents
    rw [List.mem_map]
    exact ⟨u, List.mem_filter.2 ⟨List.mem_of_getElem? hk, hu⟩, rfl⟩
  have hab := above_pref hx (mem t _ ht pt.1) ps.2 pt.2 (mem s _ hs ps.1)
  rcases Nat.lt_or_ge (lowN l 0 x) j with h1 | h1
  · rw [ordered_ents, ordS_get] at ho
    have := ho _ _ _ _ h1 ht hs pt.1 ps.1
    rw [hab] at this; cases this
  · have : lowN l 0 x = j := by omega
    rw [this, hs] at ht
    cases ht
    unfold En.above at hab
    simp at hab
end Go.AM
namespace Go.Proofs.Ytmjanbhmpbhagaa.C
open Go.AM
variable {hook : Nat → Nat → List AV → Heap → Option (AV × Heap)} {lim : Nat} {H : Heap}
theorem ev_prefixes (v : AV) (l : List En) (hv : Lst En.c 6 H v l) (hl : l.length < 1000000) : ev (PX hook) lim 38 [v] H = some (.bool (l.all prefP), H) := by
  refine ev_own _ (PF t38) rfl (by decide) ?_
  have hlen := hv.len'
  simp only [f38, go_sem, Nat.reduceAdd, Nat.reduceMul, Nat.reduceSub, Nat.reduceBEq, Nat.reduceEqDiff, Nat.reduceLeDiff, Nat.reduceLT, Nat.reduceBneDiff, Int.reduceAdd, Int.cast_ofNat_Int, Int.toNat_natCast, Int.reduceLE, Int.reduceLT, Int.reduceToNat, Int.reduceEq, ↓reduceIte, hlen]
  refine GO_loop _ (fun m e H' => ∃ (k : Nat) (G : Heap), k + m = l.length ∧ l.all prefP = (l.drop k).all prefP ∧ e 5 = v ∧ e 6 = .int .i64 (l.length : Int) ∧ e 7 = .int .i64 (k : Int) ∧ H' = H ++ G) ?_ l.length _ _ ?_
  · rintro m e H' ⟨k, G, hk, ha, i5, i6, i7, rfl⟩
    cases m with
    | zero =>
      have hk' : k = l.length := by omega
      subst hk'
      rw [List.drop_of_length_le (Nat.le_refl _)] at ha
      simp only [f38b0, go_sem, Nat.reduceAdd, Nat.reduceMul, Nat.reduceSub, Nat.reduceBEq, Nat.reduceEqDiff, Nat.reduceLeDiff, Nat.reduceLT, Nat.reduceBneDiff, Int.reduceAdd, Int.cast_ofNat_Int, Int.toNat_natCast, Int.reduceLE, Int.reduceLT, Int.reduceToNat, Int.reduceEq, ↓reduceIte, i5, i6, i7, lt_false, ha, List.all_nil]
    | succ m =>
      obtain ⟨x, hx, hdrop⟩ := get_of_lt (show k < l.length by omega)
      obtain ⟨id, ver, q, E⟩ := hv.at (by omega) En.len hx
      have d := lt_true (show k < l.length by omega)
      have a1 := wrap_succ (show k < 1000000 by omega)
      rw [hdrop, List.all_cons] at ha
      have hmk := fun lim H => ev_Make (hook := hook) (lim := lim) (H := H) x.w.v x.n
      have hof := fun lim H => ev_WOf (hook := hook) (lim := lim) (H := H) (cutA x.w.v (near x.n)) (near x.n : Int)
      have he : Wd.ofP (cutA x.w.v (near x.n)) (near x.n : Int) = Wd.ofP x.w.v x.n := by unfold Wd.ofP; rw [near_near, cutA_cutA]
      rw [he] at hof
      have ht2 : List.take 2 x.c = [u64 (hi x.w.v), u64 (lo x.w.v)] := rfl
      cases b1 : x.right
      · rw [prefP, b1, Bool.false_and, Bool.false_and] at ha
        simp only [f38b0, go_sem, Nat.reduceAdd, Nat.reduceMul, Nat.reduceSub, Nat.reduceBEq, Nat.reduceEqDiff, Nat.reduceLeDiff, Nat.reduceLT, Nat.reduceBneDiff, Int.reduceAdd, Int.cast_ofNat_Int, Int.toNat_natCast, Int.reduceLE, Int.reduceLT, Int.reduceToNat, Int.reduceEq, ↓reduceIte, i5, i6, i7, d, E.adr, E.adr', E.cel, E.cel', E.all, E.all', E.part, E.part', E.part0, E.part0', E.one, E.one', E.one0, E.one0', En.len, En.put, write_endE', cells_end', En.all, ev_ERight, b1, ha]
      · cases b2 : decide (x.w = Wd.ofP x.w.v x.n)
        · rw [prefP, b1, b2, Bool.and_false, Bool.false_and] at ha
          simp only [f38b0, go_sem, Nat.reduceAdd, Nat.reduceMul, Nat.reduceSub, Nat.reduceBEq, Nat.reduceEqDiff, Nat.reduceLeDiff, Nat.reduceLT, Nat.reduceBneDiff, Int.reduceAdd, Int.cast_ofNat_Int, Int.toNat_natCast, Int.reduceLE, Int.reduceLT, Int.reduceToNat, Int.reduceEq, ↓reduceIte, i5, i6, i7, d, E.adr, E.adr', E.cel, E.cel', E.all, E.all', E.part, E.part', E.part0, E.part0', E.one, E.one', E.one0, E.one0', En.len, En.put, write_endE', cells_end', En.all, En.wrd, En.get4, ht2, ev_ERight, b1, hmk, hof, eqW, b2, ha]
        · rw [prefP, b1, b2, Bool.and_true, Bool.true_and] at ha
          simp only [f38b0, go_sem, Nat.reduceAdd, Nat.reduceMul, Nat.reduceSub, Nat.reduceBEq, Nat.reduceEqDiff, Nat.reduceLeDiff, Nat.reduceLT, Nat.reduceBneDiff, Int.reduceAdd, Int.cast_ofNat_Int, Int.toNat_natCast, Int.reduceLE, Int.reduceLT, Int.reduceToNat, Int.reduceEq, ↓reduceIte, i5, i6, i7, d, a1, E.adr, E.adr', E.cel, E.cel', E.all, E.all', E.part, E.part', E.part0, E.part0', E.one, E.one', E.one0, E.one0', En.len, En.put, write_endE', cells_end', En.all, En.wrd, En.get4, ht2, ev_ERight, b1, hmk, hof, eqW, b2]
          exact ⟨m, by omega, k + 1, _, by omega, ha, rfl, rfl⟩
  · exact ⟨0, [], by omega, by simp, by simp only [go_sem, Nat.reduceAdd, Nat.reduceMul, Nat.reduceSub, Nat.reduceBEq, Nat.reduceEqDiff, Nat.reduceLeDiff, Nat.reduceLT, Nat.reduceBneDiff, Int.reduceAdd, Int.cast_ofNat_Int, Int.toNat_natCast, Int.reduceLE, Int.reduceLT, Int.reduceToNat, Int.reduceEq, ↓reduceIte], by simp only [go_sem, Nat.reduceAdd, Nat.reduceMul, Nat.reduceSub, Nat.reduceBEq, Nat.reduceEqDiff, Nat.reduceLeDiff, Nat.reduceLT, Nat.reduceBneDiff, Int.reduceAdd, Int.cast_ofNat_Int, Int.toNat_natCast, Int.reduceLE, Int.reduceLT, Int.reduceToNat, Int.reduceEq, ↓reduceIte], by simp only [go_sem, Nat.reduceAdd, Nat.reduceMul, Nat.reduceSub, Nat.reduceBEq, Nat.reduceEqDiff, Nat.reduceLeDiff, Nat.reduceLT, Nat.reduceBneDiff, Int.reduceAdd, Int.cast_ofNat_Int, Int.toNat_natCast, Int.reduceLE, Int.reduceLT, Int.reduceToNat, Int.reduceEq, ↓reduceIte], by simp⟩
theorem caoGaps_true (v : AV) (l : List Sl) (x : En) (hv : Lst Sl.c 7 H v l) : ∀ w ∈ variants f8.body, GO (PX hook) H.length w [] (Env.ofList [v, .agg x.c]) H (endX f8.res f8.mode H.length fun r H' => r = .bool true) := by
  have hlen := hv.len
  intro w hw
  simp only [f8, variants, List.flatMap_cons, List.flatMap_nil, List.map_cons, List.map_nil, List.append_nil, List.nil_append, List.singleton_append, List.cons_append, List.mem_cons, List.not_mem_nil, or_false] at hw
  by_cases hn : l.length ≤ 20
  · have d : decide ((20 : Int) < (l.length : Int)) = false := by rw [decide_eq_false_iff_not]; omega
    have hv1 := hv.more [Blk.rw 0 6 x.c]
    obtain ⟨v1, L1, h1, g1⟩ := ev_law08Of (hook := hook) (lim := H.length) v l hv1 (by omega)
    have hv2 := hv1.more L1
    have h2 := ev_caoGap (hook := hook) (lim := H.length) v l x hv2 (by omega)
    have h3 := ev_rGap (hook := hook) (lim := H.length) v1 l x g1.lst (by omega)
    obtain ⟨v4, L4, h4, g4⟩ := ev_rEntries (hook := hook) (lim := H.length) v1 l g1.lst (by omega)
    have hel := ents_le l
    have h5 := ev_rOrdered (hook := hook) (lim := H.length) v4 _ g4.lst (by omega)
    have hv3 := hv2.more L4
    have h6 := ev_caoKept (hook := hook) (lim := H.length) v l hv3 (by omega)
    have hne1 : ((hiN l l.length x : Int) != (hiN l l.length x : Int)) = false := by simp
    have hne2 : ((lowN l 0 x : Int) != (lowN l 0 x : Int)) = false := by simp
    simp only [List.append_assoc, List.cons_append, List.nil_append] at h1 h2 h3 h4 h5 h6
    cases hord : ordered (ents l)
    · rw [hord] at h5 h6
      rcases hw with rfl | rfl <;> simp only [f8, go_sem, Nat.reduceAdd, Nat.reduceMul, Nat.reduceSub, Nat.reduceBEq, Nat.reduceEqDiff, Nat.reduceLeDiff, Nat.reduceLT, Nat.reduceBneDiff, Int.reduceAdd, Int.cast_ofNat_Int, Int.toNat_natCast, Int.reduceLE, Int.reduceLT, Int.reduceToNat, Int.reduceEq, ↓reduceIte, hlen, gt_iff_lt, d, h1, h2, ev_law05One, h3, h4, h5, h6, hne1, hne2, show (false == false) = true from rfl, ev_awake13]
    · rw [hord] at h5 h6
      generalize hB : H ++ Blk.rw 0 6 x.c :: (L1 ++ L4) = B0 at *
      have hv4 : Lst Sl.c 7 B0 v l := by
        have := hv3
        rw [← hB]
        simpa only [List.append_assoc, List.cons_append, List.nil_append] using this
      have hBl : H.length ≤ B0.length := by rw [← hB]; simp
      have hx6 : ∀ L, loadV (B0 ++ L) true 6 (.ptr H.length 0 0) = some (.agg x.c) := by
        intro L
        rw [← hB]
        simp only [go_sem, Nat.reduceAdd, Nat.reduceMul, Nat.reduceSub, Nat.reduceBEq, Nat.reduceEqDiff, Nat.reduceLeDiff, Nat.reduceLT, Nat.reduceBneDiff, Int.reduceAdd, Int.cast_ofNat_Int, Int.toNat_natCast, Int.reduceLE, Int.reduceLT, Int.reduceToNat, Int.reduceEq, ↓reduceIte]
      have hx6' : loadV B0 true 6 (.ptr H.length 0 0) = some (.agg x.c) := by have := hx6 []; rwa [List.append_nil] at this
      -- the one way
      obtain ⟨va, La, a1, a2⟩ := ev_Entries (hook := hook) (lim := H.length) v l hv4 (by omega)
      have aG := growing_ok (H := B0) va (B0 ++ La) ⟨La, rfl⟩
      obtain ⟨va', Ga, a3, a4⟩ := a2.push0 (bytes := 48) (lim := H.length) x rfl hBl (by omega)
      have ap := ev_prefixes (hook := hook) (lim := H.length) va' _ a4.lst (by simp; omega)
      -- the other way
      have hv5 := hv4.more [Blk.rw 0 6 x.c]
      obtain ⟨vb, Lb, b1, b2⟩ := ev_Entries (hook := hook) (lim := H.length) v l hv5 (by omega)
      have bG := growing_ok (H := B0 ++ [Blk.rw 0 6 x.c]) vb ((B0 ++ [Blk.rw 0 6 x.c]) ++ Lb) ⟨Lb, rfl⟩
      have bo := (b2.own En.len En.fl).low (b' := H.length) (by simp; omega)
      obtain ⟨vb', Hb, b3, b4, _⟩ := bo.push En.len En.fl (bytes := 48) (lim := H.length) (k := B0.length) x (by simp; omega) (Nat.le_refl _) (by simp) (by omega)
      have bp := ev_prefixes (hook := hook) (lim := H.length) vb' _ b4.lst (by simp; omega)
      simp only [List.append_assoc, List.cons_append, List.nil_append] at b1 bG b3
      have tt : (true == true) = true := rfl
      cases hp : (ents l ++ [x]).all prefP
      · rw [hp] at ap bp
        rcases hw with rfl | rfl
        · simp only [f8, go_sem, Nat.reduceAdd, Nat.reduceMul, Nat.reduceSub, Nat.reduceBEq, Nat.reduceEqDiff, Nat.reduceLeDiff, Nat.reduceLT, Nat.reduceBneDiff, Int.reduceAdd, Int.cast_ofNat_Int, Int.toNat_natCast, Int.reduceLE, Int.reduceLT, Int.reduceToNat, Int.reduceEq, ↓reduceIte, hlen, gt_iff_lt, d, h1, h2, ev_law05One, h3, h4, h5, h6, hne1, hne2, tt, hx6, hx6', a1, aG, a3, ap, ev_awake13]
        · simp only [f8, go_sem, Nat.reduceAdd, Nat.reduceMul, Nat.reduceSub, Nat.reduceBEq, Nat.reduceEqDiff, Nat.reduceLeDiff, Nat.reduceLT, Nat.reduceBneDiff, Int.reduceAdd, Int.cast_ofNat_Int, Int.toNat_natCast, Int.reduceLE, Int.reduceLT, Int.reduceToNat, Int.reduceEq, ↓reduceIte, hlen, gt_iff_lt, d, h1, h2, ev_law05One, h3, h4, h5, h6, hne1, hne2, tt, hx6, hx6', b1, bG, b3, bp, ev_awake13]
      · rw [hp] at ap bp
        have hg := gap_pref hord hp
        have dg : decide ((hiN l l.length x : Int) ≤ (lowN l 0 x : Int)) = true := by rw [decide_eq_true_eq]; omega
        rcases hw with rfl | rfl
        · simp only [f8, go_sem, Nat.reduceAdd, Nat.reduceMul, Nat.reduceSub, Nat.reduceBEq, Nat.reduceEqDiff, Nat.reduceLeDiff, Nat.reduceLT, Nat.reduceBneDiff, Int.reduceAdd, Int.cast_ofNat_Int, Int.toNat_natCast, Int.reduceLE, Int.reduceLT, Int.reduceToNat, Int.reduceEq, ↓reduceIte, hlen, gt_iff_lt, d, h1, h2, ev_law05One, h3, h4, h5, h6, hne1, hne2, tt, hx6, hx6', a1, aG, a3, ap, dg, ev_awake13]
        · simp only [f8, go_sem, Nat.reduceAdd, Nat.reduceMul, Nat.reduceSub, Nat.reduceBEq, Nat.reduceEqDiff, Nat.reduceLeDiff, Nat.reduceLT, Nat.reduceBneDiff, Int.reduceAdd, Int.cast_ofNat_Int, Int.toNat_natCast, Int.reduceLE, Int.reduceLT, Int.reduceToNat, Int.reduceEq, ↓reduceIte, hlen, gt_iff_lt, d, h1, h2, ev_law05One, h3, h4, h5, h6, hne1, hne2, tt, hx6, hx6', b1, bG, b3, bp, dg, ev_awake13]
  · have d : decide ((20 : Int) < (l.length : Int)) = true := by rw [decide_eq_true_eq]; omega
    rcases hw with rfl | rfl <;> simp only [f8, go_sem, Nat.reduceAdd, Nat.reduceMul, Nat.reduceSub, Nat.reduceBEq, Nat.reduceEqDiff, Nat.reduceLeDiff, Nat.reduceLT, Nat.reduceBneDiff, Int.reduceAdd, Int.cast_ofNat_Int, Int.toNat_natCast, Int.reduceLE, Int.reduceLT, Int.reduceToNat, Int.reduceEq, ↓reduceIte, hlen, gt_iff_lt, d, ev_awake13]
end Go.Proofs.Ytmjanbhmpbhagaa.C
