/- THE ORDER OF CHAINS: there is no way just if all slots are valid; law13.right; the law's function CaoFull. Conditions: the slice shows the slots. -/
import Derived.Test.YtmjanbhmpbhagaaLdE
set_option linter.unusedVariables false
set_option linter.unusedSimpArgs false
namespace Go.AM
theorem frees_zero' {l : List Sl} : (l.length : Int) - (ents l).length = 0 ↔ frees l 0 l.length = [] := by
  have key : ∀ (m : List Sl) (k : Nat), (∀ i s, m[i]? = some s → l[k + i]? = some s) → (ents m).length ≤ m.length ∧ ((ents m).length = m.length ↔ frees l k (k + m.length) = []) := by
    intro m
    induction m with
    | nil => intro k _; simp [ents, frees_self]
    | cons s m ih =>
      intro k hk
      have hs : l[k]? = some s := hk 0 s rfl
      obtain ⟨h1, h2⟩ := ih (k + 1) (fun i t ht => by rw [show k + 1 + i = k + (i + 1) by omega]; exact hk (i + 1) t ht)
      have hsp := frees_split l (show k ≤ k + 1 by omega) (show k + 1 ≤ k + (s :: m).length by simp)
      rw [frees_one hs, show k + (s :: m).length = k + 1 + m.length by simp; omega] at hsp
      rw [show k + (s :: m).length = k + 1 + m.length by simp; omega, hsp]
      cases b : s.ok
      · have : ents (s :: m) = ents m := by simp [ents, b]
        rw [this]
        simp
        omega
      · have : ents (s :: m) = s.e :: ents m := by simp [ents, b]
        rw [this]
        simp only [List.length_cons, if_true, List.nil_append]
        exact ⟨by omega, by rw [← h2]; omega⟩
  obtain ⟨h1, h2⟩ := key l 0 (fun i s h => by rw [Nat.zero_add]; exact h)
  rw [Nat.zero_add] at h2
  rw [← h2]
  omega
theorem wayB_none {l : List Sl} (h : frees l 0 l.length = []) : ∀ (f a : Nat) (way : List Nat), wayB l f a way = []
  | 0, a, way => rfl
  | f + 1, a, way => by
    rw [wayB]
    split
    · rfl
    · rename_i s hs
      have hn : (frees l (a + 1) (lowN l (a + 1) s.e)).head? = none := by
        rw [List.head?_eq_none_iff, List.eq_nil_iff_forall_not_mem]
        intro k hk
        obtain ⟨h1, h2, t, h3, h4⟩ := mem_frees.1 hk
        have : k ∈ frees l 0 l.length := mem_frees.2 ⟨by omega, (List.getElem?_eq_some_iff.1 h3).1, t, h3, h4⟩
        rw [h] at this; cases this
      rw [hn]
      exact wayB_none h f _ _
theorem wayA_none {l : List Sl} (h : frees l 0 l.length = []) : ∀ (f a : Nat) (way : List Nat), wayA l f a way = []
  | 0, a, way => rfl
  | f + 1, 0, way => rfl
  | f + 1, a + 1, way => by
    rw [wayA]
    split
    · rfl
    · rename_i s hs
      have hn : (frees l (hiN l a s.e) a).getLast? = none := by
        rw [List.getLast?_eq_none_iff, List.eq_nil_iff_forall_not_mem]
        intro k hk
        obtain ⟨h1, h2, t, h3, h4⟩ := mem_frees.1 hk
        have : k ∈ frees l 0 l.length := mem_frees.2 ⟨by omega, (List.getElem?_eq_some_iff.1 h3).1, t, h3, h4⟩
        rw [h] at this; cases this
      rw [hn]
      exact wayA_none h f _ _
theorem wayB_some {l : List Sl} {k : Nat} {t : Sl} (hk : l[k]? = some t) (hf : t.ok = false) : ∀ (f a : Nat) (way : List Nat), a ≤ k → l.length ≤ a + f → (∀ s, l[a]? = some s → s.ok = true) → 0 < (wayB l f a way).length
  | 0, a, way, h1, h2, _ => by have := (List.getElem?_eq_some_iff.1 hk).1; omega
  | f + 1, a, way, h1, h2, hok => by
    have hkl := (List.getElem?_eq_some_iff.1 hk).1
    obtain ⟨s, hs, _⟩ := get_of_lt (show a < l.length by omega)
    have hak : a ≠ k := by
      intro h; subst h
      rw [hk] at hs; cases hs
      have := hok t hk
      rw [hf] at this; cases this
    rw [wayB, hs]
    simp only
    cases hh : (frees l (a + 1) (lowN l (a + 1) s.e)).head? with
    | some q => simp
    | none =>
      simp only
      rw [List.head?_eq_none_iff] at hh
      have hle : lowN l (a + 1) s.e ≤ k := by
        apply Classical.byContradiction
        intro hlt
        have : k ∈ frees l (a + 1) (lowN l (a + 1) s.e) := mem_frees.2 ⟨by omega, by omega, t, hk, hf⟩
        rw [hh] at this; cases this
      have hge := firstN_ge (fun u => u.ok && s.e.above u.e) l (l.length - (a + 1)) (a + 1)
      refine wayB_some hk hf f _ _ hle (by unfold lowN; omega) fun u hu => ?_
      obtain ⟨u', h3, h4⟩ := firstN_at (fun u => u.ok && s.e.above u.e) l (l.length - (a + 1)) (a + 1) (by omega) (by unfold lowN at hle; omega)
      unfold lowN at hu
      rw [h3] at hu; cases hu
      simp only [Bool.and_eq_true] at h4
      exact h4.1
theorem wayA_some {l : List Sl} {k : Nat} {t : Sl} (hk : l[k]? = some t) (hf : t.ok = false) : ∀ (f a : Nat) (way : List Nat), k < a → a ≤ l.length → a ≤ f → (∀ s, l[a - 1]? = some s → s.ok = true) → 0 < (wayA l f a way).length
  | 0, a, way, h1, _, h2, _ => by omega
  | f + 1, 0, way, h1, _, h2, _ => by omega
  | f + 1, a + 1, way, h1, h0, h2, hok => by
    obtain ⟨s, hs, _⟩ := get_of_lt (show a < l.length by omega)
    have hak : a ≠ k := by
      intro h; subst h
      rw [hk] at hs; cases hs
      have := hok t hk
      rw [hf] at this; cases this
    rw [wayA, hs]
    simp only
    cases hh : (frees l (hiN l a s.e) a).getLast? with
    | some q => simp
    | none =>
      simp only
      rw [List.getLast?_eq_none_iff] at hh
      have hlt : k < hiN l a s.e := by
        apply Classical.byContradiction
        intro hge
        have : k ∈ frees l (hiN l a s.e) a := mem_frees.2 ⟨by omega, by omega, t, hk, hf⟩
        rw [hh] at this; cases this
      have hle := lastN_le (fun u => u.ok && u.e.above s.e) l a
      refine wayA_some hk hf f _ _ hlt (by unfold hiN; omega) (by unfold hiN; omega) fun u hu => ?_
      obtain ⟨j, hj⟩ : ∃ j, hiN l a s.e = j + 1 := ⟨hiN l a s.e - 1, by omega⟩
      obtain ⟨u', h3, h4⟩ := lastN_at (fun u => u.ok && u.e.above s.e) l a j hj
      rw [hj, Nat.add_sub_cancel] at hu
      rw [h3] at hu; cases hu
      simp only [Bool.and_eq_true] at h4
      exact h4.1
theorem writesW_pos {l : List Sl} {x : En} {w : List Nat} (h : 0 < w.length) : 0 < (writesW l x w).length := by rw [writesW_len]; exact h
/-- There is no way just if all slots are valid. -/
theorem cao_full {l : List Sl} {x : En} (ho : ordered (ents l) = true) (hp : (ents l ++ [x]).all prefP = true) :
    (frees l 0 l.length = [] → caoW l x = ([], 3)) ∧ (frees l 0 l.length ≠ [] → 0 < (caoW l x).1.length ∧ (caoW l x).2 = 0) := by
  have hg := gap_pref ho hp
  have hr : x.right = true := by
    rw [List.all_append, Bool.and_eq_true] at hp
    have : prefP x = true := by simpa using hp.2
    unfold prefP at this
    rw [Bool.and_eq_true] at this
    exact this.1
  have hlo : lowN l 0 x ≤ l.length := firstN_le _ _ _ _ (Nat.zero_le _)
  have hw : caoW l x = match (frees l (hiN l l.length x) (lowN l 0 x)).head? with
      | some k => (writesW l x [k], 0)
      | none => if (wayB l (l.length + 1) (lowN l 0 x) []).length + (wayA l (l.length + 1) (hiN l l.length x) []).length = 0 then ([], 3) else
        if (wayB l (l.length + 1) (lowN l 0 x) []).length = 0 ∨ (0 < (wayA l (l.length + 1) (hiN l l.length x) []).length ∧ (wayA l (l.length + 1) (hiN l l.length x) []).length < (wayB l (l.length + 1) (lowN l 0 x) []).length) then (writesW l x (wayA l (l.length + 1) (hiN l l.length x) []), 0) else (writesW l x (wayB l (l.length + 1) (lowN l 0 x) []), 0) := by
    unfold caoW
    rw [if_neg (by simp [hr]), if_neg (by simp [ho]; omega)]
    rfl
  have hsplit := frees_split l (Nat.zero_le (hiN l l.length x)) (show hiN l l.length x ≤ l.length from lastN_le _ _ _)
  rw [frees_split l hg hlo] at hsplit
  constructor
  · intro h
    rw [hsplit, List.append_eq_nil_iff, List.append_eq_nil_iff] at h
    rw [hw, h.2.1]
    have h0 : frees l 0 l.length = [] := by rw [hsplit, h.1, h.2.1, h.2.2]; rfl
    simp only [List.head?_nil, wayB_none h0, wayA_none h0]
    rfl
  · intro h
    rw [hw]
    cases hh : (frees l (hiN l l.length x) (lowN l 0 x)).head? with
    | some k => exact ⟨writesW_pos (w := [k]) Nat.zero_lt_one, rfl⟩
    | none =>
      simp only
      rw [List.head?_eq_none_iff] at hh
      have hsum : 0 < (wayB l (l.length + 1) (lowN l 0 x) []).length ∨ 0 < (wayA l (l.length + 1) (hiN l l.length x) []).length := by
        obtain ⟨k, hk⟩ := List.exists_mem_of_ne_nil _ h
        obtain ⟨_, k2, t, k3, k4⟩ := mem_frees.1 hk
        rcases Nat.lt_or_ge k (hiN l l.length x) with h1 | h1
        · right
          obtain ⟨j, hj⟩ : ∃ j, hiN l l.length x = j + 1 := ⟨hiN l l.length x - 1, by omega⟩
          refine wayA_some k3 k4 _ _ _ h1 (lastN_le _ _ _) (by have := lastN_le (fun s => s.ok && s.e.above x) l l.length; unfold hiN; omega) fun u hu => ?_
          obtain ⟨u', g3, g4⟩ := lastN_at (fun s => s.ok && s.e.above x) l l.length j hj
          rw [hj, Nat.add_sub_cancel, g3] at hu
          cases hu
          simp only [Bool.and_eq_true] at g4
          exact g4.1
        · rcases Nat.lt_or_ge k (lowN l 0 x) with h2 | h2
          · exfalso
            have : k ∈ frees l (hiN l l.length x) (lowN l 0 x) := mem_frees.2 ⟨h1, h2, t, k3, k4⟩
            rw [hh] at this; cases this
          · left
            refine wayB_some k3 k4 _ _ _ h2 (by omega) fun u hu => ?_
            obtain ⟨u', g3, g4⟩ := firstN_at (fun s => s.ok && x.above s.e) l l.length 0 (by omega) (show lowN l 0 x < l.length by omega)
            unfold lowN at hu
            rw [Nat.sub_zero, g3] at hu
            cases hu
            simp only [Bool.and_eq_true] at g4
            exact g4.1
      rw [if_neg (by omega)]
      split
      · rename_i hc
        exact ⟨writesW_pos (by omega), rfl⟩
      · rename_i hc
        refine ⟨writesW_pos ?_, rfl⟩
        omega
end Go.AM
namespace Go.Proofs.Ytmjanbhmpbhagaa.C
open Go.AM
variable {hook : Nat → Nat → List AV → Heap → Option (AV × Heap)} {lim : Nat} {H : Heap}
theorem write_endS (B G : Heap) (a b c d f g h : AV) (s : Sl) (lim : Nat) : Heap.write (B ++ (G ++ [Blk.rw 0 7 [a, b, c, d, f, g, h]])) lim (B.length + G.length) 0 0 s.c = some (B ++ (G ++ [Blk.rw 0 7 s.c])) := by
  unfold Heap.write
  rw [get_end']
  simp only
  rw [if_pos ⟨trivial, by simp [Sl.c], fun _ => rfl⟩]
  rw [← List.append_assoc, List.set_append_right _ _ (by simp)]
  simp [putCells, Sl.c]
def okS (s : Sl) : Bool := decide (s = Sl.z) || (s.ok && s.e.right)
theorem ev_right13 (v : AV) (l : List Sl) (hv : Lst Sl.c 7 H v l) (hl : l.length < 1000000) : ev (PX hook) lim 40 [v] H = some (.bool (l.all okS), H) := by
  refine ev_own _ (PF t40) rfl (by decide) ?_
  have hlen := hv.len'
  simp only [f40, go_sem, Nat.reduceAdd, Nat.reduceMul, Nat.reduceSub, Nat.reduceBEq, Nat.reduceEqDiff, Nat.reduceLeDiff, Nat.reduceLT, Nat.reduceBneDiff, Int.reduceAdd, Int.cast_ofNat_Int, Int.toNat_natCast, Int.reduceLE, Int.reduceLT, Int.reduceToNat, Int.reduceEq, ↓reduceIte, hlen]
  refine GO_loop _ (fun m e H' => ∃ (k : Nat) (G : Heap), k + m = l.length ∧ l.all okS = (l.drop k).all okS ∧ e 5 = v ∧ e 6 = .int .i64 (l.length : Int) ∧ e 7 = .int .i64 (k : Int) ∧ H' = H ++ G) ?_ l.length _ _ ?_
  · rintro m e H' ⟨k, G, hk, ha, i5, i6, i7, rfl⟩
    cases m with
    | zero =>
      have hk' : k = l.length := by omega
      subst hk'
      rw [List.drop_of_length_le (Nat.le_refl _)] at ha
      simp only [f40b0, go_sem, Nat.reduceAdd, Nat.reduceMul, Nat.reduceSub, Nat.reduceBEq, Nat.reduceEqDiff, Nat.reduceLeDiff, Nat.reduceLT, Nat.reduceBneDiff, Int.reduceAdd, Int.cast_ofNat_Int, Int.toNat_natCast, Int.reduceLE, Int.reduceLT, Int.reduceToNat, Int.reduceEq, ↓reduceIte, i5, i6, i7, lt_false, ha, List.all_nil]
    | succ m =>
      obtain ⟨x, hx, hdrop⟩ := get_of_lt (show k < l.length by omega)
      obtain ⟨id, ver, q, E⟩ := hv.at (by omega) Sl.len hx
      have d := lt_true (show k < l.length by omega)
      have a1 := wrap_succ (show k < 1000000 by omega)
      rw [hdrop, List.all_cons] at ha
      cases b0 : decide (x = Sl.z)
      · cases b1 : x.ok
        · rw [okS, b0, b1, Bool.false_or, Bool.false_and, Bool.false_and] at ha
          simp only [f40b0, go_sem, Nat.reduceAdd, Nat.reduceMul, Nat.reduceSub, Nat.reduceBEq, Nat.reduceEqDiff, Nat.reduceLeDiff, Nat.reduceLT, Nat.reduceBneDiff, Int.reduceAdd, Int.cast_ofNat_Int, Int.toNat_natCast, Int.reduceLE, Int.reduceLT, Int.reduceToNat, Int.reduceEq, ↓reduceIte, i5, i6, i7, d, E.adr, E.adr', E.cel, E.cel', E.all, E.all', E.part, E.part', E.part0, E.part0', E.one, E.one', E.one0, E.one0', Sl.len, Sl.put, write_endS, cells_end', Sl.all, Sl.get0, eqS0, b0, b1, ha]
        · cases b2 : x.e.right
          · rw [okS, b0, b1, b2, Bool.false_or, Bool.and_false, Bool.false_and] at ha
            simp only [f40b0, go_sem, Nat.reduceAdd, Nat.reduceMul, Nat.reduceSub, Nat.reduceBEq, Nat.reduceEqDiff, Nat.reduceLeDiff, Nat.reduceLT, Nat.reduceBneDiff, Int.reduceAdd, Int.cast_ofNat_Int, Int.toNat_natCast, Int.reduceLE, Int.reduceLT, Int.reduceToNat, Int.reduceEq, ↓reduceIte, i5, i6, i7, d, E.adr, E.adr', E.cel, E.cel', E.all, E.all', E.part, E.part', E.part0, E.part0', E.one, E.one', E.one0, E.one0', Sl.len, Sl.put, write_endS, cells_end', Sl.all, Sl.get0, Sl.ent, eqS0, b0, b1, ev_ERight, b2, ha]
          · rw [okS, b0, b1, b2, Bool.false_or, Bool.and_true, Bool.true_and] at ha
            simp only [f40b0, go_sem, Nat.reduceAdd, Nat.reduceMul, Nat.reduceSub, Nat.reduceBEq, Nat.reduceEqDiff, Nat.reduceLeDiff, Nat.reduceLT, Nat.reduceBneDiff, Int.reduceAdd, Int.cast_ofNat_Int, Int.toNat_natCast, Int.reduceLE, Int.reduceLT, Int.reduceToNat, Int.reduceEq, ↓reduceIte, i5, i6, i7, d, a1, E.adr, E.adr', E.cel, E.cel', E.all, E.all', E.part, E.part', E.part0, E.part0', E.one, E.one', E.one0, E.one0', Sl.len, Sl.put, write_endS, cells_end', Sl.all, Sl.get0, Sl.ent, eqS0, b0, b1, ev_ERight, b2]
            exact ⟨m, by omega, k + 1, _, by omega, ha, rfl, rfl⟩
      · rw [okS, b0, Bool.true_or, Bool.true_and] at ha
        simp only [f40b0, go_sem, Nat.reduceAdd, Nat.reduceMul, Nat.reduceSub, Nat.reduceBEq, Nat.reduceEqDiff, Nat.reduceLeDiff, Nat.reduceLT, Nat.reduceBneDiff, Int.reduceAdd, Int.cast_ofNat_Int, Int.toNat_natCast, Int.reduceLE, Int.reduceLT, Int.reduceToNat, Int.reduceEq, ↓reduceIte, i5, i6, i7, d, a1, E.adr, E.adr', E.cel, E.cel', E.all, E.all', E.part, E.part', E.part0, E.part0', E.one, E.one', E.one0, E.one0', Sl.len, Sl.put, write_endS, cells_end', Sl.all, Sl.get0, eqS0, b0]
        exact ⟨m, by omega, k + 1, _, by omega, ha, rfl, rfl⟩
  · exact ⟨0, [], by omega, by simp, by simp only [go_sem, Nat.reduceAdd, Nat.reduceMul, Nat.reduceSub, Nat.reduceBEq, Nat.reduceEqDiff, Nat.reduceLeDiff, Nat.reduceLT, Nat.reduceBneDiff, Int.reduceAdd, Int.cast_ofNat_Int, Int.toNat_natCast, Int.reduceLE, Int.reduceLT, Int.reduceToNat, Int.reduceEq, ↓reduceIte], by simp only [go_sem, Nat.reduceAdd, Nat.reduceMul, Nat.reduceSub, Nat.reduceBEq, Nat.reduceEqDiff, Nat.reduceLeDiff, Nat.reduceLT, Nat.reduceBneDiff, Int.reduceAdd, Int.cast_ofNat_Int, Int.toNat_natCast, Int.reduceLE, Int.reduceLT, Int.reduceToNat, Int.reduceEq, ↓reduceIte], by simp only [go_sem, Nat.reduceAdd, Nat.reduceMul, Nat.reduceSub, Nat.reduceBEq, Nat.reduceEqDiff, Nat.reduceLeDiff, Nat.reduceLT, Nat.reduceBneDiff, Int.reduceAdd, Int.cast_ofNat_Int, Int.toNat_natCast, Int.reduceLE, Int.reduceLT, Int.reduceToNat, Int.reduceEq, ↓reduceIte], by simp⟩
theorem caoFull_true (v : AV) (l : List Sl) (x : En) (hv : Lst Sl.c 7 H v l) : ∀ w ∈ variants f9.body, GO (PX hook) H.length w [] (Env.ofList [v, .agg x.c]) H (endX f9.res f9.mode H.length fun r H' => r = .bool true) := by
  have hlen := hv.len
  intro w hw
  simp only [f9, variants, List.flatMap_cons, List.flatMap_nil, List.map_cons, List.map_nil, List.append_nil, List.nil_append, List.singleton_append, List.cons_append, List.mem_cons, List.not_mem_nil, or_false] at hw
  by_cases hn : l.length ≤ 20
  · have d : decide ((20 : Int) < (l.length : Int)) = false := by rw [decide_eq_false_iff_not]; omega
    have hv1 := hv.more [Blk.rw 0 6 x.c]
    have h1 := ev_right13 (hook := hook) (lim := H.length) v l hv1 (by omega)
    have h2 := ev_caoKept (hook := hook) (lim := H.length) v l hv1 (by omega)
    have hel := ents_le l
    cases hright : l.all okS
    · rw [hright] at h1
      rcases hw with rfl | rfl <;> simp only [f9, go_sem, Nat.reduceAdd, Nat.reduceMul, Nat.reduceSub, Nat.reduceBEq, Nat.reduceEqDiff, Nat.reduceLeDiff, Nat.reduceLT, Nat.reduceBneDiff, Int.reduceAdd, Int.cast_ofNat_Int, Int.toNat_natCast, Int.reduceLE, Int.reduceLT, Int.reduceToNat, Int.reduceEq, ↓reduceIte, hlen, gt_iff_lt, d, h1, ev_awake13]
    · rw [hright] at h1
      cases hord : ordered (ents l)
      · rw [hord] at h2
        rcases hw with rfl | rfl <;> simp only [f9, go_sem, Nat.reduceAdd, Nat.reduceMul, Nat.reduceSub, Nat.reduceBEq, Nat.reduceEqDiff, Nat.reduceLeDiff, Nat.reduceLT, Nat.reduceBneDiff, Int.reduceAdd, Int.cast_ofNat_Int, Int.toNat_natCast, Int.reduceLE, Int.reduceLT, Int.reduceToNat, Int.reduceEq, ↓reduceIte, hlen, gt_iff_lt, d, h1, h2, ev_awake13]
      · rw [hord] at h2
        generalize hB : H ++ [Blk.rw 0 6 x.c] = B0 at *
        have hBl : H.length ≤ B0.length := by rw [← hB]; simp
        have hx6 : ∀ L, loadV (B0 ++ L) true 6 (.ptr H.length 0 0) = some (.agg x.c) := by
          intro L
          rw [← hB]
          simp only [go_sem, Nat.reduceAdd, Nat.reduceMul, Nat.reduceSub, Nat.reduceBEq, Nat.reduceEqDiff, Nat.reduceLeDiff, Nat.reduceLT, Nat.reduceBneDiff, Int.reduceAdd, Int.cast_ofNat_Int, Int.toNat_natCast, Int.reduceLE, Int.reduceLT, Int.reduceToNat, Int.reduceEq, ↓reduceIte]
        have hx6' : loadV B0 true 6 (.ptr H.length 0 0) = some (.agg x.c) := by have := hx6 []; rwa [List.append_nil] at this
        obtain ⟨va, La, a1, a2⟩ := ev_Entries (hook := hook) (lim := H.length) v l hv1 (by omega)
        have aG := growing_ok (H := B0) va (B0 ++ La) ⟨La, rfl⟩
        obtain ⟨va', Ga, a3, a4⟩ := a2.push0 (bytes := 48) (lim := H.length) x rfl hBl (by omega)
        have ap := ev_prefixes (hook := hook) (lim := H.length) va' _ a4.lst (by simp; omega)
        have hv5 := hv1.more [Blk.rw 0 6 x.c]
        obtain ⟨vb, Lb, b1, b2⟩ := ev_Entries (hook := hook) (lim := H.length) v l hv5 (by omega)
        have bG := growing_ok (H := B0 ++ [Blk.rw 0 6 x.c]) vb ((B0 ++ [Blk.rw 0 6 x.c]) ++ Lb) ⟨Lb, rfl⟩
        have bo := (b2.own En.len En.fl).low (b' := B0.length) (by simp)
        obtain ⟨vb', Hb, b3, b4, _, _, _, b5⟩ := bo.push En.len En.fl (bytes := 48) (lim := H.length) (k := B0.length) x (by simp) hBl (by simp) (by omega)
        obtain ⟨Gb, rfl⟩ : ∃ G3, Hb = B0 ++ G3 := ⟨Hb.drop B0.length, by
          have h1 := List.take_append_drop B0.length Hb
          rw [b5, List.append_assoc, List.take_append_of_le_length (Nat.le_refl _), List.take_length] at h1
          exact h1.symm⟩
        have bp := ev_prefixes (hook := hook) (lim := H.length) vb' _ b4.lst (by simp; omega)
        simp only [List.append_assoc, List.cons_append, List.nil_append] at b1 bG b3
        have hlB := hv1.len'
        cases hp : (ents l ++ [x]).all prefP
        · rw [hp] at ap bp
          rcases hw with rfl | rfl
          · simp only [f9, go_sem, Nat.reduceAdd, Nat.reduceMul, Nat.reduceSub, Nat.reduceBEq, Nat.reduceEqDiff, Nat.reduceLeDiff, Nat.reduceLT, Nat.reduceBneDiff, Int.reduceAdd, Int.cast_ofNat_Int, Int.toNat_natCast, Int.reduceLE, Int.reduceLT, Int.reduceToNat, Int.reduceEq, ↓reduceIte, hlen, gt_iff_lt, hB, hlB, d, h1, h2, hx6, hx6', a1, aG, a3, ap, ev_awake13]
          · simp only [f9, go_sem, Nat.reduceAdd, Nat.reduceMul, Nat.reduceSub, Nat.reduceBEq, Nat.reduceEqDiff, Nat.reduceLeDiff, Nat.reduceLT, Nat.reduceBneDiff, Int.reduceAdd, Int.cast_ofNat_Int, Int.toNat_natCast, Int.reduceLE, Int.reduceLT, Int.reduceToNat, Int.reduceEq, ↓reduceIte, hlen, gt_iff_lt, hB, hlB, d, h1, h2, hx6, hx6', b1, bG, b3, bp, ev_awake13]
        · rw [hp] at ap bp
          obtain ⟨c1, c2⟩ := cao_full hord hp
          have tail : ∀ G, ∃ v6 L6, ev (PX hook) H.length 31 [v, .agg x.c] (B0 ++ G) = some (.tup [v6, .int .i64 (caoW l x).2], B0 ++ (G ++ L6)) ∧ ev (PX hook) H.length 41 [v] (B0 ++ (G ++ L6)) = some (.int .i64 ((l.length : Int) - (ents l).length), B0 ++ (G ++ L6)) ∧ lenV (B0 ++ (G ++ L6)) v6 = some (.int .i64 ((caoW l x).1.length : Int)) := by
            intro G
            obtain ⟨v6, L6, i1, i2⟩ := ev_caoInsert (hook := hook) (lim := H.length) v l x (hv1.more G) (by omega)
            have i3 := ev_Free (hook := hook) (lim := H.length) v l ((hv1.more G).more L6) (by omega)
            have i4 := i2.lst.len'
            rw [List.append_assoc] at i1 i3 i4
            exact ⟨v6, L6, i1, i3, i4⟩
          obtain ⟨v6, L6, i1, i3, i4⟩ := tail Ga
          obtain ⟨v7, L7, j1, j3, j4⟩ := tail Gb
          by_cases hz : frees l 0 l.length = []
          · have hc := c1 hz
            have e0 : (((l.length : Int) - ((ents l).length : Int)) == 0) = true := by rw [beq_iff_eq]; exact frees_zero'.2 hz
            rw [hc] at i1 i4 j1 j4
            have k1 : ((([] : List Wr).length : Int) == 0) = true := rfl
            have k2 : ((3 : Int) == 3) = true := rfl
            rcases hw with rfl | rfl
            · simp only [f9, go_sem, Nat.reduceAdd, Nat.reduceMul, Nat.reduceSub, Nat.reduceBEq, Nat.reduceEqDiff, Nat.reduceLeDiff, Nat.reduceLT, Nat.reduceBneDiff, Int.reduceAdd, Int.cast_ofNat_Int, Int.toNat_natCast, Int.reduceLE, Int.reduceLT, Int.reduceToNat, Int.reduceEq, ↓reduceIte, hlen, gt_iff_lt, hB, hlB, d, h1, h2, hx6, hx6', a1, aG, a3, ap, i1, i3, i4, e0, k1, k2, show ((0 : Int) == 0) = true from rfl, ev_awake13]
              try rfl
            · simp only [f9, go_sem, Nat.reduceAdd, Nat.reduceMul, Nat.reduceSub, Nat.reduceBEq, Nat.reduceEqDiff, Nat.reduceLeDiff, Nat.reduceLT, Nat.reduceBneDiff, Int.reduceAdd, Int.cast_ofNat_Int, Int.toNat_natCast, Int.reduceLE, Int.reduceLT, Int.reduceToNat, Int.reduceEq, ↓reduceIte, hlen, gt_iff_lt, hB, hlB, d, h1, h2, hx6, hx6', b1, bG, b3, bp, j1, j3, j4, e0, k1, k2, show ((0 : Int) == 0) = true from rfl, ev_awake13]
              try rfl
          · obtain ⟨hc1, hc2⟩ := c2 hz
            have e0 : (((l.length : Int) - ((ents l).length : Int)) == 0) = false := by rw [beq_eq_false_iff_ne]; exact fun h => hz (frees_zero'.1 h)
            have k1 : decide ((0 : Int) < ((caoW l x).1.length : Int)) = true := by rw [decide_eq_true_eq]; omega
            have k2 : ((0 : Int) == 0) = true := rfl
            rw [hc2] at i1 j1
            rcases hw with rfl | rfl
            · simp only [f9, go_sem, Nat.reduceAdd, Nat.reduceMul, Nat.reduceSub, Nat.reduceBEq, Nat.reduceEqDiff, Nat.reduceLeDiff, Nat.reduceLT, Nat.reduceBneDiff, Int.reduceAdd, Int.cast_ofNat_Int, Int.toNat_natCast, Int.reduceLE, Int.reduceLT, Int.reduceToNat, Int.reduceEq, ↓reduceIte, hlen, gt_iff_lt, hB, hlB, d, h1, h2, hx6, hx6', a1, aG, a3, ap, i1, i3, i4, e0, k1, k2, show ((0 : Int) == 0) = true from rfl, ev_awake13]
            · simp only [f9, go_sem, Nat.reduceAdd, Nat.reduceMul, Nat.reduceSub, Nat.reduceBEq, Nat.reduceEqDiff, Nat.reduceLeDiff, Nat.reduceLT, Nat.reduceBneDiff, Int.reduceAdd, Int.cast_ofNat_Int, Int.toNat_natCast, Int.reduceLE, Int.reduceLT, Int.reduceToNat, Int.reduceEq, ↓reduceIte, hlen, gt_iff_lt, hB, hlB, d, h1, h2, hx6, hx6', b1, bG, b3, bp, j1, j3, j4, e0, k1, k2, show ((0 : Int) == 0) = true from rfl, ev_awake13]
  · have d : decide ((20 : Int) < (l.length : Int)) = true := by rw [decide_eq_true_eq]; omega
    rcases hw with rfl | rfl <;> simp only [f9, go_sem, Nat.reduceAdd, Nat.reduceMul, Nat.reduceSub, Nat.reduceBEq, Nat.reduceEqDiff, Nat.reduceLeDiff, Nat.reduceLT, Nat.reduceBneDiff, Int.reduceAdd, Int.cast_ofNat_Int, Int.toNat_natCast, Int.reduceLE, Int.reduceLT, Int.reduceToNat, Int.reduceEq, ↓reduceIte, hlen, gt_iff_lt, d, ev_awake13]
end Go.Proofs.Ytmjanbhmpbhagaa.C
