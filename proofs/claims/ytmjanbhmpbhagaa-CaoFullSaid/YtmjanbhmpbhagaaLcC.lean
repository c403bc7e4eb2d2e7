/- ROWS OF SLOTS AND WRITES: copies, comparisons, what is valid. Conditions: the slices show what is told. -/
import Derived.Test.YtmjanbhmpbhagaaLcB
set_option linter.unusedVariables false
set_option linter.unusedSimpArgs false
namespace Go.AM
/-- A step. -/
structure Stp where
  k : Int
  e : En
  deriving DecidableEq
def Stp.c (s : Stp) : List AV := [.int .i64 s.k, u64 (hi s.e.w.v), u64 (lo s.e.w.v), u64 (hi s.e.w.m), u64 (lo s.e.w.m), .int .i64 s.e.n, .int .i64 s.e.x]
theorem Stp.len (s : Stp) : s.c.length = 7 := rfl
theorem Stp.fl (s : Stp) : AV.flats s.c = true := rfl
theorem Stp.get0 (s : Stp) : s.c[0]? = some (.int .i64 s.k) := rfl
theorem Stp.get6 (s : Stp) : s.c[6]? = some (.int .i64 s.e.x) := rfl
theorem Stp.ent (s : Stp) : List.take 6 (List.drop 1 s.c) = s.e.c := rfl
theorem Stp.all (s : Stp) : List.take 7 s.c = s.c := rfl
theorem Stp.put (s : Stp) (a b d e f g h : AV) : putCells [a, b, d, e, f, g, h] 0 s.c = s.c := rfl
theorem Stp.of (k : Int) (x : En) : AV.int .i64 k :: x.c = Stp.c ⟨k, x⟩ := rfl
attribute [go_sem] Stp.len Stp.get0 Stp.get6 Stp.ent Stp.all Stp.put Stp.of
/-- What is valid. -/
def ents (l : List Sl) : List En := (l.filter (·.ok)).map (·.e)
theorem ents_snoc (l : List Sl) (x : Sl) : ents (l ++ [x]) = ents l ++ (if x.ok then [x.e] else []) := by
  unfold ents
  rw [List.filter_append, List.map_append]
  cases h : x.ok <;> simp [h]
theorem ents_le (l : List Sl) : (ents l).length ≤ l.length := by unfold ents; rw [List.length_map]; exact List.length_filter_le _ _
/-- The writes of the slots for which something holds. -/
def eachW (p : Sl → Bool) (to : Sl) : Nat → List Sl → List Wr
  | _, [] => []
  | k, s :: l => (if p s then [⟨(k : Int), to⟩] else []) ++ eachW p to (k + 1) l
theorem eachW_snoc (p : Sl → Bool) (to : Sl) (k : Nat) (l : List Sl) (x : Sl) : eachW p to k (l ++ [x]) = eachW p to k l ++ (if p x then [⟨((k + l.length : Nat) : Int), to⟩] else []) := by
  induction l generalizing k with
  | nil => simp [eachW]
  | cons s l ih => rw [List.cons_append, eachW, eachW, ih, List.append_assoc, List.length_cons, show k + 1 + l.length = k + (l.length + 1) by omega]
theorem eachW_le (p : Sl → Bool) (to : Sl) (k : Nat) (l : List Sl) : (eachW p to k l).length ≤ l.length := by
  induction l generalizing k with
  | nil => simp [eachW]
  | cons s l ih =>
    rw [eachW, List.length_append, List.length_cons]
    have := ih (k + 1)
    split <;> simp <;> omega
end Go.AM
namespace Go.Proofs.Ytmjanbhmpbhagaa.C
open Go.AM
variable {hook : Nat → Nat → List AV → Heap → Option (AV × Heap)} {lim : Nat} {H : Heap}
theorem ev_law08Of (v : AV) (l : List Sl) (hv : Lst Sl.c 7 H v l) (hl : l.length < 1000000) : ∃ v' L, ev (PX hook) lim 13 [v] H = some (v', H ++ L) ∧ Gr Sl.c 7 H L v' l := by
  suffices hs : EV (PX hook) lim 13 [v] H fun v' H' => ∃ L, H' = H ++ L ∧ Gr Sl.c 7 H L v' l by
    rw [EV_iff] at hs; obtain ⟨v', H', h1, L, rfl, h2⟩ := hs; exact ⟨v', L, h1, h2⟩
  rw [EV_own _ (PF t13) rfl (by decide)]
  have hlen := hv.len'
  simp only [f13, go_sem, Nat.reduceAdd, Nat.reduceMul, Nat.reduceSub, Nat.reduceBEq, Nat.reduceEqDiff, Nat.reduceLeDiff, Nat.reduceLT, Nat.reduceBneDiff, Int.reduceAdd, Int.cast_ofNat_Int, Int.toNat_natCast, Int.reduceLE, Int.reduceLT, Int.reduceToNat, Int.reduceEq, ↓reduceIte, hlen]
  refine GO_loop _ (fun m e H' => ∃ (k : Nat) (G : Heap), k + m = l.length ∧ Gr Sl.c 7 H G (e 3) (l.take k) ∧ e 6 = v ∧ e 7 = .int .i64 (l.length : Int) ∧ e 8 = .int .i64 (k : Int) ∧ H' = H ++ G) ?_ l.length _ _ ?_
  · rintro m e H' ⟨k, G, hk, hg, i6, i7, i8, rfl⟩
    cases m with
    | zero =>
      have hk' : k = l.length := by omega
      subst hk'
      rw [List.take_length] at hg
      obtain ⟨v', L', hfin, hsh⟩ := hg.keep0 Sl.fl
      simp only [f13b0, go_sem, Nat.reduceAdd, Nat.reduceMul, Nat.reduceSub, Nat.reduceBEq, Nat.reduceEqDiff, Nat.reduceLeDiff, Nat.reduceLT, Nat.reduceBneDiff, Int.reduceAdd, Int.cast_ofNat_Int, Int.toNat_natCast, Int.reduceLE, Int.reduceLT, Int.reduceToNat, Int.reduceEq, ↓reduceIte, i6, i7, i8, lt_false, hfin]
      exact ⟨L', rfl, hsh⟩
    | succ m =>
      obtain ⟨x, hx, _⟩ := get_of_lt (show k < l.length by omega)
      obtain ⟨id, ver, p, E⟩ := hv.at (by omega) Sl.len hx
      have d := lt_true (show k < l.length by omega)
      have a1 := wrap_succ (show k < 1000000 by omega)
      obtain ⟨v', G', ha, hg'⟩ := hg.push1 (bytes := 56) (lim := H.length) (.rw 0 7 x.c) x rfl (Nat.le_refl _) (by rw [List.length_take]; omega)
      simp only [f13b0, go_sem, Nat.reduceAdd, Nat.reduceMul, Nat.reduceSub, Nat.reduceBEq, Nat.reduceEqDiff, Nat.reduceLeDiff, Nat.reduceLT, Nat.reduceBneDiff, Int.reduceAdd, Int.cast_ofNat_Int, Int.toNat_natCast, Int.reduceLE, Int.reduceLT, Int.reduceToNat, Int.reduceEq, ↓reduceIte, i6, i7, i8, d, a1, E.adr, E.adr', E.cel, E.cel', E.all, E.all', E.part, E.part', E.part0, E.part0', E.one, E.one', E.one0, E.one0', ev_law08One, ha]
      exact ⟨m, by omega, k + 1, G', by omega, by rw [take_succ_of hx]; exact hg', rfl, rfl⟩
  · exact ⟨0, [], by omega, Gr.nil, by simp only [go_sem, Nat.reduceAdd, Nat.reduceMul, Nat.reduceSub, Nat.reduceBEq, Nat.reduceEqDiff, Nat.reduceLeDiff, Nat.reduceLT, Nat.reduceBneDiff, Int.reduceAdd, Int.cast_ofNat_Int, Int.toNat_natCast, Int.reduceLE, Int.reduceLT, Int.reduceToNat, Int.reduceEq, ↓reduceIte], by simp only [go_sem, Nat.reduceAdd, Nat.reduceMul, Nat.reduceSub, Nat.reduceBEq, Nat.reduceEqDiff, Nat.reduceLeDiff, Nat.reduceLT, Nat.reduceBneDiff, Int.reduceAdd, Int.cast_ofNat_Int, Int.toNat_natCast, Int.reduceLE, Int.reduceLT, Int.reduceToNat, Int.reduceEq, ↓reduceIte], by simp only [go_sem, Nat.reduceAdd, Nat.reduceMul, Nat.reduceSub, Nat.reduceBEq, Nat.reduceEqDiff, Nat.reduceLeDiff, Nat.reduceLT, Nat.reduceBneDiff, Int.reduceAdd, Int.cast_ofNat_Int, Int.toNat_natCast, Int.reduceLE, Int.reduceLT, Int.reduceToNat, Int.reduceEq, ↓reduceIte], by simp only [go_sem, Nat.reduceAdd, Nat.reduceMul, Nat.reduceSub, Nat.reduceBEq, Nat.reduceEqDiff, Nat.reduceLeDiff, Nat.reduceLT, Nat.reduceBneDiff, Int.reduceAdd, Int.cast_ofNat_Int, Int.toNat_natCast, Int.reduceLE, Int.reduceLT, Int.reduceToNat, Int.reduceEq, ↓reduceIte]⟩
theorem ev_law08Writes (v : AV) (l : List Wr) (hv : Lst Wr.c 8 H v l) (hl : l.length < 1000000) : ∃ v' L, ev (PX hook) lim 51 [v] H = some (v', H ++ L) ∧ Gr Wr.c 8 H L v' l := by
  suffices hs : EV (PX hook) lim 51 [v] H fun v' H' => ∃ L, H' = H ++ L ∧ Gr Wr.c 8 H L v' l by
    rw [EV_iff] at hs; obtain ⟨v', H', h1, L, rfl, h2⟩ := hs; exact ⟨v', L, h1, h2⟩
  rw [EV_own _ (PF t51) rfl (by decide)]
  have hlen := hv.len'
  simp only [f51, go_sem, Nat.reduceAdd, Nat.reduceMul, Nat.reduceSub, Nat.reduceBEq, Nat.reduceEqDiff, Nat.reduceLeDiff, Nat.reduceLT, Nat.reduceBneDiff, Int.reduceAdd, Int.cast_ofNat_Int, Int.toNat_natCast, Int.reduceLE, Int.reduceLT, Int.reduceToNat, Int.reduceEq, ↓reduceIte, hlen]
  refine GO_loop _ (fun m e H' => ∃ (k : Nat) (G : Heap), k + m = l.length ∧ Gr Wr.c 8 H G (e 3) (l.take k) ∧ e 6 = v ∧ e 7 = .int .i64 (l.length : Int) ∧ e 8 = .int .i64 (k : Int) ∧ H' = H ++ G) ?_ l.length _ _ ?_
  · rintro m e H' ⟨k, G, hk, hg, i6, i7, i8, rfl⟩
    cases m with
    | zero =>
      have hk' : k = l.length := by omega
      subst hk'
      rw [List.take_length] at hg
      obtain ⟨v', L', hfin, hsh⟩ := hg.keep0 Wr.fl
      simp only [f51b0, go_sem, Nat.reduceAdd, Nat.reduceMul, Nat.reduceSub, Nat.reduceBEq, Nat.reduceEqDiff, Nat.reduceLeDiff, Nat.reduceLT, Nat.reduceBneDiff, Int.reduceAdd, Int.cast_ofNat_Int, Int.toNat_natCast, Int.reduceLE, Int.reduceLT, Int.reduceToNat, Int.reduceEq, ↓reduceIte, i6, i7, i8, lt_false, hfin]
      exact ⟨L', rfl, hsh⟩
    | succ m =>
      obtain ⟨x, hx, _⟩ := get_of_lt (show k < l.length by omega)
      obtain ⟨id, ver, p, E⟩ := hv.at (by omega) Wr.len hx
      have d := lt_true (show k < l.length by omega)
      have a1 := wrap_succ (show k < 1000000 by omega)
      obtain ⟨v', G', ha, hg'⟩ := hg.push1 (bytes := 64) (lim := H.length) (.rw 0 8 x.c) x rfl (Nat.le_refl _) (by rw [List.length_take]; omega)
      simp only [f51b0, go_sem, Nat.reduceAdd, Nat.reduceMul, Nat.reduceSub, Nat.reduceBEq, Nat.reduceEqDiff, Nat.reduceLeDiff, Nat.reduceLT, Nat.reduceBneDiff, Int.reduceAdd, Int.cast_ofNat_Int, Int.toNat_natCast, Int.reduceLE, Int.reduceLT, Int.reduceToNat, Int.reduceEq, ↓reduceIte, i6, i7, i8, d, a1, E.adr, E.adr', E.cel, E.cel', E.all, E.all', E.part, E.part', E.part0, E.part0', E.one, E.one', E.one0, E.one0', ev_law08One, ha]
      exact ⟨m, by omega, k + 1, G', by omega, by rw [take_succ_of hx]; exact hg', rfl, rfl⟩
  · exact ⟨0, [], by omega, Gr.nil, by simp only [go_sem, Nat.reduceAdd, Nat.reduceMul, Nat.reduceSub, Nat.reduceBEq, Nat.reduceEqDiff, Nat.reduceLeDiff, Nat.reduceLT, Nat.reduceBneDiff, Int.reduceAdd, Int.cast_ofNat_Int, Int.toNat_natCast, Int.reduceLE, Int.reduceLT, Int.reduceToNat, Int.reduceEq, ↓reduceIte], by simp only [go_sem, Nat.reduceAdd, Nat.reduceMul, Nat.reduceSub, Nat.reduceBEq, Nat.reduceEqDiff, Nat.reduceLeDiff, Nat.reduceLT, Nat.reduceBneDiff, Int.reduceAdd, Int.cast_ofNat_Int, Int.toNat_natCast, Int.reduceLE, Int.reduceLT, Int.reduceToNat, Int.reduceEq, ↓reduceIte], by simp only [go_sem, Nat.reduceAdd, Nat.reduceMul, Nat.reduceSub, Nat.reduceBEq, Nat.reduceEqDiff, Nat.reduceLeDiff, Nat.reduceLT, Nat.reduceBneDiff, Int.reduceAdd, Int.cast_ofNat_Int, Int.toNat_natCast, Int.reduceLE, Int.reduceLT, Int.reduceToNat, Int.reduceEq, ↓reduceIte], by simp only [go_sem, Nat.reduceAdd, Nat.reduceMul, Nat.reduceSub, Nat.reduceBEq, Nat.reduceEqDiff, Nat.reduceLeDiff, Nat.reduceLT, Nat.reduceBneDiff, Int.reduceAdd, Int.cast_ofNat_Int, Int.toNat_natCast, Int.reduceLE, Int.reduceLT, Int.reduceToNat, Int.reduceEq, ↓reduceIte]⟩
theorem ev_law14steps (v : AV) (l : List Stp) (hv : Lst Stp.c 7 H v l) (hl : l.length < 1000000) : ∃ v' L, ev (PX hook) lim 16 [v] H = some (v', H ++ L) ∧ Gr Stp.c 7 H L v' l := by
  suffices hs : EV (PX hook) lim 16 [v] H fun v' H' => ∃ L, H' = H ++ L ∧ Gr Stp.c 7 H L v' l by
    rw [EV_iff] at hs; obtain ⟨v', H', h1, L, rfl, h2⟩ := hs; exact ⟨v', L, h1, h2⟩
  rw [EV_own _ (PF t16) rfl (by decide)]
  have hlen := hv.len'
  simp only [f16, go_sem, Nat.reduceAdd, Nat.reduceMul, Nat.reduceSub, Nat.reduceBEq, Nat.reduceEqDiff, Nat.reduceLeDiff, Nat.reduceLT, Nat.reduceBneDiff, Int.reduceAdd, Int.cast_ofNat_Int, Int.toNat_natCast, Int.reduceLE, Int.reduceLT, Int.reduceToNat, Int.reduceEq, ↓reduceIte, hlen]
  refine GO_loop _ (fun m e H' => ∃ (k : Nat) (G : Heap), k + m = l.length ∧ Gr Stp.c 7 H G (e 3) (l.take k) ∧ e 6 = v ∧ e 7 = .int .i64 (l.length : Int) ∧ e 8 = .int .i64 (k : Int) ∧ H' = H ++ G) ?_ l.length _ _ ?_
  · rintro m e H' ⟨k, G, hk, hg, i6, i7, i8, rfl⟩
    cases m with
    | zero =>
      have hk' : k = l.length := by omega
      subst hk'
      rw [List.take_length] at hg
      obtain ⟨v', L', hfin, hsh⟩ := hg.keep0 Stp.fl
      simp only [f16b0, go_sem, Nat.reduceAdd, Nat.reduceMul, Nat.reduceSub, Nat.reduceBEq, Nat.reduceEqDiff, Nat.reduceLeDiff, Nat.reduceLT, Nat.reduceBneDiff, Int.reduceAdd, Int.cast_ofNat_Int, Int.toNat_natCast, Int.reduceLE, Int.reduceLT, Int.reduceToNat, Int.reduceEq, ↓reduceIte, i6, i7, i8, lt_false, hfin]
      exact ⟨L', rfl, hsh⟩
    | succ m =>
      obtain ⟨x, hx, _⟩ := get_of_lt (show k < l.length by omega)
      obtain ⟨id, ver, p, E⟩ := hv.at (by omega) Stp.len hx
      have d := lt_true (show k < l.length by omega)
      have a1 := wrap_succ (show k < 1000000 by omega)
      obtain ⟨v', G', ha, hg'⟩ := hg.push1 (bytes := 56) (lim := H.length) (.rw 0 7 x.c) x rfl (Nat.le_refl _) (by rw [List.length_take]; omega)
      simp only [f16b0, go_sem, Nat.reduceAdd, Nat.reduceMul, Nat.reduceSub, Nat.reduceBEq, Nat.reduceEqDiff, Nat.reduceLeDiff, Nat.reduceLT, Nat.reduceBneDiff, Int.reduceAdd, Int.cast_ofNat_Int, Int.toNat_natCast, Int.reduceLE, Int.reduceLT, Int.reduceToNat, Int.reduceEq, ↓reduceIte, i6, i7, i8, d, a1, E.adr, E.adr', E.cel, E.cel', E.all, E.all', E.part, E.part', E.part0, E.part0', E.one, E.one', E.one0, E.one0', ev_law05One, ha]
      exact ⟨m, by omega, k + 1, G', by omega, by rw [take_succ_of hx]; exact hg', rfl, rfl⟩
  · exact ⟨0, [], by omega, Gr.nil, by simp only [go_sem, Nat.reduceAdd, Nat.reduceMul, Nat.reduceSub, Nat.reduceBEq, Nat.reduceEqDiff, Nat.reduceLeDiff, Nat.reduceLT, Nat.reduceBneDiff, Int.reduceAdd, Int.cast_ofNat_Int, Int.toNat_natCast, Int.reduceLE, Int.reduceLT, Int.reduceToNat, Int.reduceEq, ↓reduceIte], by simp only [go_sem, Nat.reduceAdd, Nat.reduceMul, Nat.reduceSub, Nat.reduceBEq, Nat.reduceEqDiff, Nat.reduceLeDiff, Nat.reduceLT, Nat.reduceBneDiff, Int.reduceAdd, Int.cast_ofNat_Int, Int.toNat_natCast, Int.reduceLE, Int.reduceLT, Int.reduceToNat, Int.reduceEq, ↓reduceIte], by simp only [go_sem, Nat.reduceAdd, Nat.reduceMul, Nat.reduceSub, Nat.reduceBEq, Nat.reduceEqDiff, Nat.reduceLeDiff, Nat.reduceLT, Nat.reduceBneDiff, Int.reduceAdd, Int.cast_ofNat_Int, Int.toNat_natCast, Int.reduceLE, Int.reduceLT, Int.reduceToNat, Int.reduceEq, ↓reduceIte], by simp only [go_sem, Nat.reduceAdd, Nat.reduceMul, Nat.reduceSub, Nat.reduceBEq, Nat.reduceEqDiff, Nat.reduceLeDiff, Nat.reduceLT, Nat.reduceBneDiff, Int.reduceAdd, Int.cast_ofNat_Int, Int.toNat_natCast, Int.reduceLE, Int.reduceLT, Int.reduceToNat, Int.reduceEq, ↓reduceIte]⟩
theorem ev_Entries (v : AV) (l : List Sl) (hv : Lst Sl.c 7 H v l) (hl : l.length < 1000000) : ∃ v' L, ev (PX hook) lim 39 [v] H = some (v', H ++ L) ∧ Gr En.c 6 H L v' (ents l) := by
  suffices hs : EV (PX hook) lim 39 [v] H fun v' H' => ∃ L, H' = H ++ L ∧ Gr En.c 6 H L v' (ents l) by
    rw [EV_iff] at hs; obtain ⟨v', H', h1, L, rfl, h2⟩ := hs; exact ⟨v', L, h1, h2⟩
  rw [EV_own _ (PF t39) rfl (by decide)]
  have hlen := hv.len'
  simp only [f39, go_sem, Nat.reduceAdd, Nat.reduceMul, Nat.reduceSub, Nat.reduceBEq, Nat.reduceEqDiff, Nat.reduceLeDiff, Nat.reduceLT, Nat.reduceBneDiff, Int.reduceAdd, Int.cast_ofNat_Int, Int.toNat_natCast, Int.reduceLE, Int.reduceLT, Int.reduceToNat, Int.reduceEq, ↓reduceIte, hlen]
  refine GO_loop _ (fun m e H' => ∃ (k : Nat) (G : Heap), k + m = l.length ∧ Gr En.c 6 H G (e 3) (ents (l.take k)) ∧ e 6 = v ∧ e 7 = .int .i64 (l.length : Int) ∧ e 8 = .int .i64 (k : Int) ∧ H' = H ++ G) ?_ l.length _ _ ?_
  · rintro m e H' ⟨k, G, hk, hg, i6, i7, i8, rfl⟩
    cases m with
    | zero =>
      have hk' : k = l.length := by omega
      subst hk'
      rw [List.take_length] at hg
      obtain ⟨v', L', hfin, hsh⟩ := hg.keep0 En.fl
      simp only [f39b0, go_sem, Nat.reduceAdd, Nat.reduceMul, Nat.reduceSub, Nat.reduceBEq, Nat.reduceEqDiff, Nat.reduceLeDiff, Nat.reduceLT, Nat.reduceBneDiff, Int.reduceAdd, Int.cast_ofNat_Int, Int.toNat_natCast, Int.reduceLE, Int.reduceLT, Int.reduceToNat, Int.reduceEq, ↓reduceIte, i6, i7, i8, lt_false, hfin]
      exact ⟨L', rfl, hsh⟩
    | succ m =>
      obtain ⟨x, hx, _⟩ := get_of_lt (show k < l.length by omega)
      obtain ⟨id, ver, p, E⟩ := hv.at (by omega) Sl.len hx
      have d := lt_true (show k < l.length by omega)
      have a1 := wrap_succ (show k < 1000000 by omega)
      have hle := ents_le (l.take k)
      rw [List.length_take] at hle
      have hsn := ents_snoc (l.take k) x
      cases hok : x.ok
      · simp only [hok, Bool.false_eq_true, if_false, List.append_nil] at hsn
        simp only [f39b0, go_sem, Nat.reduceAdd, Nat.reduceMul, Nat.reduceSub, Nat.reduceBEq, Nat.reduceEqDiff, Nat.reduceLeDiff, Nat.reduceLT, Nat.reduceBneDiff, Int.reduceAdd, Int.cast_ofNat_Int, Int.toNat_natCast, Int.reduceLE, Int.reduceLT, Int.reduceToNat, Int.reduceEq, ↓reduceIte, i6, i7, i8, d, a1, E.adr, E.adr', E.cel, E.cel', E.all, E.all', E.part, E.part', E.part0, E.part0', E.one, E.one', E.one0, E.one0', hok]
        exact ⟨m, by omega, k + 1, G ++ [.rw 0 7 x.c], by omega, by rw [take_succ_of hx, hsn]; exact hg.ext _, rfl, rfl⟩
      · simp only [hok, if_true] at hsn
        obtain ⟨v', G', ha, hg'⟩ := hg.push1 (bytes := 48) (lim := H.length) (.rw 0 7 x.c) x.e rfl (Nat.le_refl _) (by omega)
        simp only [f39b0, go_sem, Nat.reduceAdd, Nat.reduceMul, Nat.reduceSub, Nat.reduceBEq, Nat.reduceEqDiff, Nat.reduceLeDiff, Nat.reduceLT, Nat.reduceBneDiff, Int.reduceAdd, Int.cast_ofNat_Int, Int.toNat_natCast, Int.reduceLE, Int.reduceLT, Int.reduceToNat, Int.reduceEq, ↓reduceIte, i6, i7, i8, d, a1, E.adr, E.adr', E.cel, E.cel', E.all, E.all', E.part, E.part', E.part0, E.part0', E.one, E.one', E.one0, E.one0', hok, ha]
        exact ⟨m, by omega, k + 1, G', by omega, by rw [take_succ_of hx, hsn]; exact hg', rfl, rfl⟩
  · exact ⟨0, [], by omega, Gr.nil, by simp only [go_sem, Nat.reduceAdd, Nat.reduceMul, Nat.reduceSub, Nat.reduceBEq, Nat.reduceEqDiff, Nat.reduceLeDiff, Nat.reduceLT, Nat.reduceBneDiff, Int.reduceAdd, Int.cast_ofNat_Int, Int.toNat_natCast, Int.reduceLE, Int.reduceLT, Int.reduceToNat, Int.reduceEq, ↓reduceIte], by simp only [go_sem, Nat.reduceAdd, Nat.reduceMul, Nat.reduceSub, Nat.reduceBEq, Nat.reduceEqDiff, Nat.reduceLeDiff, Nat.reduceLT, Nat.reduceBneDiff, Int.reduceAdd, Int.cast_ofNat_Int, Int.toNat_natCast, Int.reduceLE, Int.reduceLT, Int.reduceToNat, Int.reduceEq, ↓reduceIte], by simp only [go_sem, Nat.reduceAdd, Nat.reduceMul, Nat.reduceSub, Nat.reduceBEq, Nat.reduceEqDiff, Nat.reduceLeDiff, Nat.reduceLT, Nat.reduceBneDiff, Int.reduceAdd, Int.cast_ofNat_Int, Int.toNat_natCast, Int.reduceLE, Int.reduceLT, Int.reduceToNat, Int.reduceEq, ↓reduceIte], by simp only [go_sem, Nat.reduceAdd, Nat.reduceMul, Nat.reduceSub, Nat.reduceBEq, Nat.reduceEqDiff, Nat.reduceLeDiff, Nat.reduceLT, Nat.reduceBneDiff, Int.reduceAdd, Int.cast_ofNat_Int, Int.toNat_natCast, Int.reduceLE, Int.reduceLT, Int.reduceToNat, Int.reduceEq, ↓reduceIte]⟩
theorem ev_rEntries (v : AV) (l : List Sl) (hv : Lst Sl.c 7 H v l) (hl : l.length < 1000000) : ∃ v' L, ev (PX hook) lim 36 [v] H = some (v', H ++ L) ∧ Gr En.c 6 H L v' (ents l) := by
  suffices hs : EV (PX hook) lim 36 [v] H fun v' H' => ∃ L, H' = H ++ L ∧ Gr En.c 6 H L v' (ents l) by
    rw [EV_iff] at hs; obtain ⟨v', H', h1, L, rfl, h2⟩ := hs; exact ⟨v', L, h1, h2⟩
  rw [EV_own _ (PF t36) rfl (by decide)]
  have hlen := hv.len
  simp only [f36, go_sem, Nat.reduceAdd, Nat.reduceMul, Nat.reduceSub, Nat.reduceBEq, Nat.reduceEqDiff, Nat.reduceLeDiff, Nat.reduceLT, Nat.reduceBneDiff, Int.reduceAdd, Int.cast_ofNat_Int, Int.toNat_natCast, Int.reduceLE, Int.reduceLT, Int.reduceToNat, Int.reduceEq, ↓reduceIte]
  refine GO_loop _ (fun m e H' => ∃ (k : Nat) (G : Heap), k + m = l.length ∧ Gr En.c 6 H G (e 3) (ents (l.take k)) ∧ e 0 = v ∧ e 4 = .int .i64 (k : Int) ∧ H' = H ++ G) ?_ l.length _ _ ?_
  · rintro m e H' ⟨k, G, hk, hg, i0, i4, rfl⟩
    cases m with
    | zero =>
      have hk' : k = l.length := by omega
      subst hk'
      rw [List.take_length] at hg
      obtain ⟨v', L', hfin, hsh⟩ := hg.keep0 En.fl
      simp only [f36b0, go_sem, Nat.reduceAdd, Nat.reduceMul, Nat.reduceSub, Nat.reduceBEq, Nat.reduceEqDiff, Nat.reduceLeDiff, Nat.reduceLT, Nat.reduceBneDiff, Int.reduceAdd, Int.cast_ofNat_Int, Int.toNat_natCast, Int.reduceLE, Int.reduceLT, Int.reduceToNat, Int.reduceEq, ↓reduceIte, i0, i4, hlen, lt_false, hfin]
      exact ⟨L', rfl, hsh⟩
    | succ m =>
      obtain ⟨x, hx, _⟩ := get_of_lt (show k < l.length by omega)
      obtain ⟨id, ver, p, E⟩ := hv.at (by omega) Sl.len hx
      have d := lt_true (show k < l.length by omega)
      have a1 := wrap_succ (show k < 1000000 by omega)
      have hle := ents_le (l.take k)
      rw [List.length_take] at hle
      have hsn := ents_snoc (l.take k) x
      cases hok : x.ok
      · simp only [hok, Bool.false_eq_true, if_false, List.append_nil] at hsn
        simp only [f36b0, go_sem, Nat.reduceAdd, Nat.reduceMul, Nat.reduceSub, Nat.reduceBEq, Nat.reduceEqDiff, Nat.reduceLeDiff, Nat.reduceLT, Nat.reduceBneDiff, Int.reduceAdd, Int.cast_ofNat_Int, Int.toNat_natCast, Int.reduceLE, Int.reduceLT, Int.reduceToNat, Int.reduceEq, ↓reduceIte, i0, i4, hlen, d, a1, E.adr, E.adr', E.cel, E.cel', E.all, E.all', E.part, E.part', E.part0, E.part0', E.one, E.one', E.one0, E.one0', hok]
        exact ⟨m, by omega, k + 1, G, by omega, by rw [take_succ_of hx, hsn]; exact hg, rfl, rfl⟩
      · simp only [hok, if_true] at hsn
        obtain ⟨v', G', ha, hg'⟩ := hg.push0 (bytes := 48) (lim := H.length) x.e rfl (Nat.le_refl _) (by omega)
        simp only [f36b0, go_sem, Nat.reduceAdd, Nat.reduceMul, Nat.reduceSub, Nat.reduceBEq, Nat.reduceEqDiff, Nat.reduceLeDiff, Nat.reduceLT, Nat.reduceBneDiff, Int.reduceAdd, Int.cast_ofNat_Int, Int.toNat_natCast, Int.reduceLE, Int.reduceLT, Int.reduceToNat, Int.reduceEq, ↓reduceIte, i0, i4, hlen, d, a1, E.adr, E.adr', E.cel, E.cel', E.all, E.all', E.part, E.part', E.part0, E.part0', E.one, E.one', E.one0, E.one0', hok, ha]
        exact ⟨m, by omega, k + 1, G', by omega, by rw [take_succ_of hx, hsn]; exact hg', rfl, rfl⟩
  · exact ⟨0, [], by omega, Gr.nil, by simp only [go_sem, Nat.reduceAdd, Nat.reduceMul, Nat.reduceSub, Nat.reduceBEq, Nat.reduceEqDiff, Nat.reduceLeDiff, Nat.reduceLT, Nat.reduceBneDiff, Int.reduceAdd, Int.cast_ofNat_Int, Int.toNat_natCast, Int.reduceLE, Int.reduceLT, Int.reduceToNat, Int.reduceEq, ↓reduceIte], by simp only [go_sem, Nat.reduceAdd, Nat.reduceMul, Nat.reduceSub, Nat.reduceBEq, Nat.reduceEqDiff, Nat.reduceLeDiff, Nat.reduceLT, Nat.reduceBneDiff, Int.reduceAdd, Int.cast_ofNat_Int, Int.toNat_natCast, Int.reduceLE, Int.reduceLT, Int.reduceToNat, Int.reduceEq, ↓reduceIte], by simp only [go_sem, Nat.reduceAdd, Nat.reduceMul, Nat.reduceSub, Nat.reduceBEq, Nat.reduceEqDiff, Nat.reduceLeDiff, Nat.reduceLT, Nat.reduceBneDiff, Int.reduceAdd, Int.cast_ofNat_Int, Int.toNat_natCast, Int.reduceLE, Int.reduceLT, Int.reduceToNat, Int.reduceEq, ↓reduceIte]⟩
theorem ev_law08Same (v u : AV) (l m : List Sl) (hv : Lst Sl.c 7 H v l) (hu : Lst Sl.c 7 H u m) (hl : l.length < 1000000) : ev (PX hook) lim 18 [v, u] H = some (.bool (decide (l = m)), H) := by
  refine ev_own _ (PF t18) rfl (by decide) ?_
  have hlv := hv.len'
  have hlu := hu.len'
  by_cases hlm : l.length = m.length
  · have b1 : ((l.length : Int) != (m.length : Int)) = false := by rw [hlm]; simp
    simp only [f18, go_sem, Nat.reduceAdd, Nat.reduceMul, Nat.reduceSub, Nat.reduceBEq, Nat.reduceEqDiff, Nat.reduceLeDiff, Nat.reduceLT, Nat.reduceBneDiff, Int.reduceAdd, Int.cast_ofNat_Int, Int.toNat_natCast, Int.reduceLE, Int.reduceLT, Int.reduceToNat, Int.reduceEq, ↓reduceIte, hlv, hlu, b1]
    refine GO_loop _ (fun n e H' => ∃ k : Nat, k + n = l.length ∧ l.take k = m.take k ∧ e 0 = v ∧ e 1 = u ∧ e 12 = .int .i64 (l.length : Int) ∧ e 13 = .int .i64 (k : Int) ∧ H' = H) ?_ l.length _ _ ?_
    · rintro n e H' ⟨k, hk, heq, i0, i1, i12, i13, rfl⟩
      cases n with
      | zero =>
        have hk' : k = l.length := by omega
        subst hk'
        rw [List.take_length, hlm, List.take_length] at heq
        have b2 : decide (l = m) = true := by rw [decide_eq_true_eq]; exact heq
        simp only [f18b0, go_sem, Nat.reduceAdd, Nat.reduceMul, Nat.reduceSub, Nat.reduceBEq, Nat.reduceEqDiff, Nat.reduceLeDiff, Nat.reduceLT, Nat.reduceBneDiff, Int.reduceAdd, Int.cast_ofNat_Int, Int.toNat_natCast, Int.reduceLE, Int.reduceLT, Int.reduceToNat, Int.reduceEq, ↓reduceIte, i0, i1, i12, i13, lt_false, b2]
      | succ n =>
        obtain ⟨x, hx, _⟩ := get_of_lt (show k < l.length by omega)
        obtain ⟨y, hy, _⟩ := get_of_lt (show k < m.length by omega)
        obtain ⟨id, ver, p, E⟩ := hv.at (by omega) Sl.len hx
        obtain ⟨jd, wer, q, F⟩ := hu.at (by omega) Sl.len hy
        have d := lt_true (show k < l.length by omega)
        have a1 := wrap_succ (show k < 1000000 by omega)
        by_cases hxy : x = y
        · have b3 : decide (x = y) = true := by simp [hxy]
          simp only [f18b0, go_sem, Nat.reduceAdd, Nat.reduceMul, Nat.reduceSub, Nat.reduceBEq, Nat.reduceEqDiff, Nat.reduceLeDiff, Nat.reduceLT, Nat.reduceBneDiff, Int.reduceAdd, Int.cast_ofNat_Int, Int.toNat_natCast, Int.reduceLE, Int.reduceLT, Int.reduceToNat, Int.reduceEq, ↓reduceIte, i0, i1, i12, i13, d, a1, E.adr, E.adr', E.cel, E.cel', E.all, E.all', E.part, E.part', E.part0, E.part0', E.one, E.one', E.one0, E.one0', F.adr, F.adr', F.cel, F.cel', F.all, F.all', F.part, F.part', F.part0, F.part0', F.one, F.one', F.one0, F.one0', ev_law08One, b3]
          exact ⟨n, by omega, k + 1, by omega, by rw [take_succ_of hx, take_succ_of hy, heq, hxy], rfl⟩
        · have b3 : decide (x = y) = false := by simp [hxy]
          have b4 : decide (l = m) = false := by
            rw [decide_eq_false_iff_not]; intro h
            rw [h, hy] at hx
            exact hxy (Option.some.inj hx).symm
          simp only [f18b0, go_sem, Nat.reduceAdd, Nat.reduceMul, Nat.reduceSub, Nat.reduceBEq, Nat.reduceEqDiff, Nat.reduceLeDiff, Nat.reduceLT, Nat.reduceBneDiff, Int.reduceAdd, Int.cast_ofNat_Int, Int.toNat_natCast, Int.reduceLE, Int.reduceLT, Int.reduceToNat, Int.reduceEq, ↓reduceIte, i0, i1, i12, i13, d, a1, E.adr, E.adr', E.cel, E.cel', E.all, E.all', E.part, E.part', E.part0, E.part0', E.one, E.one', E.one0, E.one0', F.adr, F.adr', F.cel, F.cel', F.all, F.all', F.part, F.part', F.part0, F.part0', F.one, F.one', F.one0, F.one0', ev_law08One, b3, b4]
    · exact ⟨0, by omega, by simp, by simp only [go_sem, Nat.reduceAdd, Nat.reduceMul, Nat.reduceSub, Nat.reduceBEq, Nat.reduceEqDiff, Nat.reduceLeDiff, Nat.reduceLT, Nat.reduceBneDiff, Int.reduceAdd, Int.cast_ofNat_Int, Int.toNat_natCast, Int.reduceLE, Int.reduceLT, Int.reduceToNat, Int.reduceEq, ↓reduceIte], by simp only [go_sem, Nat.reduceAdd, Nat.reduceMul, Nat.reduceSub, Nat.reduceBEq, Nat.reduceEqDiff, Nat.reduceLeDiff, Nat.reduceLT, Nat.reduceBneDiff, Int.reduceAdd, Int.cast_ofNat_Int, Int.toNat_natCast, Int.reduceLE, Int.reduceLT, Int.reduceToNat, Int.reduceEq, ↓reduceIte], by simp only [go_sem, Nat.reduceAdd, Nat.reduceMul, Nat.reduceSub, Nat.reduceBEq, Nat.reduceEqDiff, Nat.reduceLeDiff, Nat.reduceLT, Nat.reduceBneDiff, Int.reduceAdd, Int.cast_ofNat_Int, Int.toNat_natCast, Int.reduceLE, Int.reduceLT, Int.reduceToNat, Int.reduceEq, ↓reduceIte], by simp only [go_sem, Nat.reduceAdd, Nat.reduceMul, Nat.reduceSub, Nat.reduceBEq, Nat.reduceEqDiff, Nat.reduceLeDiff, Nat.reduceLT, Nat.reduceBneDiff, Int.reduceAdd, Int.cast_ofNat_Int, Int.toNat_natCast, Int.reduceLE, Int.reduceLT, Int.reduceToNat, Int.reduceEq, ↓reduceIte], rfl⟩
  · have b1 : ((l.length : Int) != (m.length : Int)) = true := by simp; omega
    have b2 : decide (l = m) = false := by rw [decide_eq_false_iff_not]; intro h; rw [h] at hlm; exact hlm rfl
    simp only [f18, go_sem, Nat.reduceAdd, Nat.reduceMul, Nat.reduceSub, Nat.reduceBEq, Nat.reduceEqDiff, Nat.reduceLeDiff, Nat.reduceLT, Nat.reduceBneDiff, Int.reduceAdd, Int.cast_ofNat_Int, Int.toNat_natCast, Int.reduceLE, Int.reduceLT, Int.reduceToNat, Int.reduceEq, ↓reduceIte, hlv, hlu, b1, b2]
theorem ev_law12Writes (v u : AV) (l m : List Wr) (hv : Lst Wr.c 8 H v l) (hu : Lst Wr.c 8 H u m) (hl : l.length < 1000000) : ev (PX hook) lim 17 [v, u] H = some (.bool (decide (l = m)), H) := by
  refine ev_own _ (PF t17) rfl (by decide) ?_
  obtain ⟨v', L, hw, hg⟩ := ev_law08Writes (hook := hook) (lim := H.length) v l hv hl
  have hv' := hg.lst
  have hu' := hu.more L
  have hlv := hv'.len'
  have hlu := hu'.len'
  by_cases hlm : l.length = m.length
  · have b1 : ((l.length : Int) != (m.length : Int)) = false := by rw [hlm]; simp
    simp only [f17, go_sem, Nat.reduceAdd, Nat.reduceMul, Nat.reduceSub, Nat.reduceBEq, Nat.reduceEqDiff, Nat.reduceLeDiff, Nat.reduceLT, Nat.reduceBneDiff, Int.reduceAdd, Int.cast_ofNat_Int, Int.toNat_natCast, Int.reduceLE, Int.reduceLT, Int.reduceToNat, Int.reduceEq, ↓reduceIte, hw, hlv, hlu, b1]
    refine GO_loop _ (fun n e H' => ∃ k : Nat, k + n = l.length ∧ l.take k = m.take k ∧ e 1 = u ∧ e 5 = v' ∧ e 15 = .int .i64 (l.length : Int) ∧ e 16 = .int .i64 (k : Int) ∧ H' = H ++ L) ?_ l.length _ _ ?_
    · rintro n e H' ⟨k, hk, heq, i1, i5, i15, i16, rfl⟩
      cases n with
      | zero =>
        have hk' : k = l.length := by omega
        subst hk'
        rw [List.take_length, hlm, List.take_length] at heq
        have b2 : decide (l = m) = true := by rw [decide_eq_true_eq]; exact heq
        simp only [f17b0, go_sem, Nat.reduceAdd, Nat.reduceMul, Nat.reduceSub, Nat.reduceBEq, Nat.reduceEqDiff, Nat.reduceLeDiff, Nat.reduceLT, Nat.reduceBneDiff, Int.reduceAdd, Int.cast_ofNat_Int, Int.toNat_natCast, Int.reduceLE, Int.reduceLT, Int.reduceToNat, Int.reduceEq, ↓reduceIte, i1, i5, i15, i16, lt_false, b2]
      | succ n =>
        obtain ⟨x, hx, _⟩ := get_of_lt (show k < l.length by omega)
        obtain ⟨y, hy, _⟩ := get_of_lt (show k < m.length by omega)
        obtain ⟨id, ver, p, E⟩ := hv'.at (by omega) Wr.len hx
        obtain ⟨jd, wer, q, F⟩ := hu'.at (by omega) Wr.len hy
        have d := lt_true (show k < l.length by omega)
        have a1 := wrap_succ (show k < 1000000 by omega)
        by_cases hxy : x = y
        · have b3 : decide (x = y) = true := by simp [hxy]
          simp only [f17b0, go_sem, Nat.reduceAdd, Nat.reduceMul, Nat.reduceSub, Nat.reduceBEq, Nat.reduceEqDiff, Nat.reduceLeDiff, Nat.reduceLT, Nat.reduceBneDiff, Int.reduceAdd, Int.cast_ofNat_Int, Int.toNat_natCast, Int.reduceLE, Int.reduceLT, Int.reduceToNat, Int.reduceEq, ↓reduceIte, i1, i5, i15, i16, d, a1, E.adr, E.adr', E.cel, E.cel', E.all, E.all', E.part, E.part', E.part0, E.part0', E.one, E.one', E.one0, E.one0', F.adr, F.adr', F.cel, F.cel', F.all, F.all', F.part, F.part', F.part0, F.part0', F.one, F.one', F.one0, F.one0', b3]
          exact ⟨n, by omega, k + 1, by omega, by rw [take_succ_of hx, take_succ_of hy, heq, hxy], rfl⟩
        · have b3 : decide (x = y) = false := by simp [hxy]
          have b4 : decide (l = m) = false := by
            rw [decide_eq_false_iff_not]; intro h
            rw [h, hy] at hx
            exact hxy (Option.some.inj hx).symm
          simp only [f17b0, go_sem, Nat.reduceAdd, Nat.reduceMul, Nat.reduceSub, Nat.reduceBEq, Nat.reduceEqDiff, Nat.reduceLeDiff, Nat.reduceLT, Nat.reduceBneDiff, Int.reduceAdd, Int.cast_ofNat_Int, Int.toNat_natCast, Int.reduceLE, Int.reduceLT, Int.reduceToNat, Int.reduceEq, ↓reduceIte, i1, i5, i15, i16, d, a1, E.adr, E.adr', E.cel, E.cel', E.all, E.all', E.part, E.part', E.part0, E.part0', E.one, E.one', E.one0, E.one0', F.adr, F.adr', F.cel, F.cel', F.all, F.all', F.part, F.part', F.part0, F.part0', F.one, F.one', F.one0, F.one0', b3, b4]
    · exact ⟨0, by omega, by simp, by simp only [go_sem, Nat.reduceAdd, Nat.reduceMul, Nat.reduceSub, Nat.reduceBEq, Nat.reduceEqDiff, Nat.reduceLeDiff, Nat.reduceLT, Nat.reduceBneDiff, Int.reduceAdd, Int.cast_ofNat_Int, Int.toNat_natCast, Int.reduceLE, Int.reduceLT, Int.reduceToNat, Int.reduceEq, ↓reduceIte], by simp only [go_sem, Nat.reduceAdd, Nat.reduceMul, Nat.reduceSub, Nat.reduceBEq, Nat.reduceEqDiff, Nat.reduceLeDiff, Nat.reduceLT, Nat.reduceBneDiff, Int.reduceAdd, Int.cast_ofNat_Int, Int.toNat_natCast, Int.reduceLE, Int.reduceLT, Int.reduceToNat, Int.reduceEq, ↓reduceIte], by simp only [go_sem, Nat.reduceAdd, Nat.reduceMul, Nat.reduceSub, Nat.reduceBEq, Nat.reduceEqDiff, Nat.reduceLeDiff, Nat.reduceLT, Nat.reduceBneDiff, Int.reduceAdd, Int.cast_ofNat_Int, Int.toNat_natCast, Int.reduceLE, Int.reduceLT, Int.reduceToNat, Int.reduceEq, ↓reduceIte], by simp only [go_sem, Nat.reduceAdd, Nat.reduceMul, Nat.reduceSub, Nat.reduceBEq, Nat.reduceEqDiff, Nat.reduceLeDiff, Nat.reduceLT, Nat.reduceBneDiff, Int.reduceAdd, Int.cast_ofNat_Int, Int.toNat_natCast, Int.reduceLE, Int.reduceLT, Int.reduceToNat, Int.reduceEq, ↓reduceIte], rfl⟩
  · have b1 : ((l.length : Int) != (m.length : Int)) = true := by simp; omega
    have b2 : decide (l = m) = false := by rw [decide_eq_false_iff_not]; intro h; rw [h] at hlm; exact hlm rfl
    simp only [f17, go_sem, Nat.reduceAdd, Nat.reduceMul, Nat.reduceSub, Nat.reduceBEq, Nat.reduceEqDiff, Nat.reduceLeDiff, Nat.reduceLT, Nat.reduceBneDiff, Int.reduceAdd, Int.cast_ofNat_Int, Int.toNat_natCast, Int.reduceLE, Int.reduceLT, Int.reduceToNat, Int.reduceEq, ↓reduceIte, hw, hlv, hlu, b1, b2]
end Go.Proofs.Ytmjanbhmpbhagaa.C
