/- plan.each and the twins, on both sides. Conditions: the slices show what is told. -/
import Derived.Test.YtmjanbhmpbhagaaLcD
set_option linter.unusedVariables false
set_option linter.unusedSimpArgs false
namespace Go.Proofs.Ytmjanbhmpbhagaa.C
open Go.AM
variable {hook : Nat → Nat → List AV → Heap → Option (AV × Heap)} {lim : Nat} {H : Heap}
theorem ev_One1 (y : En) (s : Stp) (id ver o : Nat) (hb : ∀ L, Heap.cells (H ++ L) id ver = some s.c) (ho : o = 0) : ev (PX hook) lim 45 [.agg y.c, .ptr id ver o] H = some (.bool (y.x != s.e.x), H) := by
  refine ev_own _ (PF t45) rfl (by decide) ?_
  subst ho
  simp only [f45, go_sem, Nat.reduceAdd, Nat.reduceMul, Nat.reduceSub, Nat.reduceBEq, Nat.reduceEqDiff, Nat.reduceLeDiff, Nat.reduceLT, Nat.reduceBneDiff, Int.reduceAdd, Int.cast_ofNat_Int, Int.toNat_natCast, Int.reduceLE, Int.reduceLT, Int.reduceToNat, Int.reduceEq, ↓reduceIte, hb]
theorem ev_One2 (y : En) : ev (PX hook) lim 47 [.agg y.c] H = some (.bool true, H) := by
  refine ev_own _ (PF t47) rfl (by decide) ?_
  simp only [f47, go_sem, Nat.reduceAdd, Nat.reduceMul, Nat.reduceSub, Nat.reduceBEq, Nat.reduceEqDiff, Nat.reduceLeDiff, Nat.reduceLT, Nat.reduceBneDiff, Int.reduceAdd, Int.cast_ofNat_Int, Int.toNat_natCast, Int.reduceLE, Int.reduceLT, Int.reduceToNat, Int.reduceEq, ↓reduceIte]
theorem ev_each (v : AV) (l : List Sl) (x : En) (to : Sl) (g : Nat) (caps : List AV) (p : En → Bool) (hv : Lst Sl.c 7 H v l) (hl : l.length < 1000000) (hp : ∀ (L : Heap) (y : En), ev (PX hook) H.length g (.agg y.c :: caps) (H ++ L) = some (.bool (p y), H ++ L)) :
    ∃ v' L, ev (PX hook) lim 46 [v, .agg x.c, .agg to.c, .fn g caps] H = some (v', H ++ L) ∧ Gr Wr.c 8 H L v' (eachW (fun s => s.ok && (s.e.alike x && p s.e)) to 0 l) := by
  suffices hs : EV (PX hook) lim 46 [v, .agg x.c, .agg to.c, .fn g caps] H fun v' H' => ∃ L, H' = H ++ L ∧ Gr Wr.c 8 H L v' (eachW (fun s => s.ok && (s.e.alike x && p s.e)) to 0 l) by
    rw [EV_iff] at hs; obtain ⟨v', H', h1, L, rfl, h2⟩ := hs; exact ⟨v', L, h1, h2⟩
  rw [EV_own _ (PF t46) rfl (by decide)]
  have hlen := hv.len
  simp only [f46, go_sem, Nat.reduceAdd, Nat.reduceMul, Nat.reduceSub, Nat.reduceBEq, Nat.reduceEqDiff, Nat.reduceLeDiff, Nat.reduceLT, Nat.reduceBneDiff, Int.reduceAdd, Int.cast_ofNat_Int, Int.toNat_natCast, Int.reduceLE, Int.reduceLT, Int.reduceToNat, Int.reduceEq, ↓reduceIte, hlen]
  refine GO_loop _ (fun m e H' => ∃ (k : Nat) (G : Heap), k + m = l.length ∧ Gr Wr.c 8 (H ++ [Blk.rw 0 6 x.c, .rw 0 7 to.c]) G (e 9) (eachW (fun s => s.ok && (s.e.alike x && p s.e)) to 0 (l.take k)) ∧ e 3 = .fn g caps ∧ e 5 = .ptr H.length 0 0 ∧ e 6 = .ptr (H.length + 1) 0 0 ∧ e 12 = v ∧ e 13 = .int .i64 (l.length : Int) ∧ e 14 = .int .i64 (k : Int) ∧ H' = H ++ (Blk.rw 0 6 x.c :: .rw 0 7 to.c :: G)) ?_ l.length _ _ ?_
  · rintro m e H' ⟨k, G, hk, hg, i3, i5, i6, i12, i13, i14, rfl⟩
    cases m with
    | zero =>
      have hk' : k = l.length := by omega
      subst hk'
      rw [List.take_length] at hg
      obtain ⟨v', L', hfin, hsh⟩ := hg.keep Wr.fl
      simp only [go_sem, Nat.reduceAdd, Nat.reduceMul, Nat.reduceSub, Nat.reduceBEq, Nat.reduceEqDiff, Nat.reduceLeDiff, Nat.reduceLT, Nat.reduceBneDiff, Int.reduceAdd, Int.cast_ofNat_Int, Int.toNat_natCast, Int.reduceLE, Int.reduceLT, Int.reduceToNat, Int.reduceEq, ↓reduceIte] at hfin
      simp only [f46b0, go_sem, Nat.reduceAdd, Nat.reduceMul, Nat.reduceSub, Nat.reduceBEq, Nat.reduceEqDiff, Nat.reduceLeDiff, Nat.reduceLT, Nat.reduceBneDiff, Int.reduceAdd, Int.cast_ofNat_Int, Int.toNat_natCast, Int.reduceLE, Int.reduceLT, Int.reduceToNat, Int.reduceEq, ↓reduceIte, i3, i5, i6, i12, i13, i14, lt_false, hfin]
      exact ⟨L', rfl, hsh⟩
    | succ m =>
      obtain ⟨s, hx, _⟩ := get_of_lt (show k < l.length by omega)
      obtain ⟨id, ver, q, E⟩ := hv.at (by omega) Sl.len hx
      have d := lt_true (show k < l.length by omega)
      have a1 := wrap_succ (show k < 1000000 by omega)
      have hsn := eachW_snoc (fun s => s.ok && (s.e.alike x && p s.e)) to 0 (l.take k) s
      have hlk : (l.take k).length = k := by rw [List.length_take]; omega
      have hle := eachW_le (fun s => s.ok && (s.e.alike x && p s.e)) to 0 (l.take k)
      rw [hlk, Nat.zero_add] at hsn
      have hpy := fun L => hp L s.e
      by_cases hb : (s.ok && (s.e.alike x && p s.e)) = true
      · rw [if_pos hb] at hsn
        simp only [Bool.and_eq_true] at hb
        obtain ⟨b1, b2, b3⟩ := hb
        obtain ⟨v', G', ha, hg'⟩ := hg.push1 (bytes := 64) (lim := H.length) (.rw 0 7 s.c) (⟨(k : Int), to⟩ : Wr) rfl (by simp) (by omega)
        simp only [go_sem, Nat.reduceAdd, Nat.reduceMul, Nat.reduceSub, Nat.reduceBEq, Nat.reduceEqDiff, Nat.reduceLeDiff, Nat.reduceLT, Nat.reduceBneDiff, Int.reduceAdd, Int.cast_ofNat_Int, Int.toNat_natCast, Int.reduceLE, Int.reduceLT, Int.reduceToNat, Int.reduceEq, ↓reduceIte, show H.length + 2 + (G.length + 1) = H.length + (G.length + 1 + 1 + 1) by omega] at ha
        rw [b3] at hpy
        simp only [f46b0, go_sem, Nat.reduceAdd, Nat.reduceMul, Nat.reduceSub, Nat.reduceBEq, Nat.reduceEqDiff, Nat.reduceLeDiff, Nat.reduceLT, Nat.reduceBneDiff, Int.reduceAdd, Int.cast_ofNat_Int, Int.toNat_natCast, Int.reduceLE, Int.reduceLT, Int.reduceToNat, Int.reduceEq, ↓reduceIte, i3, i5, i6, i12, i13, i14, d, a1, E.adr, E.adr', E.cel, E.cel', E.all, E.all', E.part, E.part', E.part0, E.part0', E.one, E.one', E.one0, E.one0', b1, b2, ev_EAlike, hpy, ha]
        exact ⟨m, by omega, k + 1, G', by omega, by rw [take_succ_of hx, hsn]; exact hg', rfl, rfl⟩
      · rw [if_neg hb, List.append_nil] at hsn
        have fin := hg.ext [Blk.rw 0 7 s.c]
        cases b1 : s.ok
        · simp only [f46b0, go_sem, Nat.reduceAdd, Nat.reduceMul, Nat.reduceSub, Nat.reduceBEq, Nat.reduceEqDiff, Nat.reduceLeDiff, Nat.reduceLT, Nat.reduceBneDiff, Int.reduceAdd, Int.cast_ofNat_Int, Int.toNat_natCast, Int.reduceLE, Int.reduceLT, Int.reduceToNat, Int.reduceEq, ↓reduceIte, i3, i5, i6, i12, i13, i14, d, a1, E.adr, E.adr', E.cel, E.cel', E.all, E.all', E.part, E.part', E.part0, E.part0', E.one, E.one', E.one0, E.one0', b1]
          exact ⟨m, by omega, k + 1, _, by omega, by rw [take_succ_of hx, hsn]; exact fin, rfl, rfl⟩
        · cases b2 : s.e.alike x
          · simp only [f46b0, go_sem, Nat.reduceAdd, Nat.reduceMul, Nat.reduceSub, Nat.reduceBEq, Nat.reduceEqDiff, Nat.reduceLeDiff, Nat.reduceLT, Nat.reduceBneDiff, Int.reduceAdd, Int.cast_ofNat_Int, Int.toNat_natCast, Int.reduceLE, Int.reduceLT, Int.reduceToNat, Int.reduceEq, ↓reduceIte, i3, i5, i6, i12, i13, i14, d, a1, E.adr, E.adr', E.cel, E.cel', E.all, E.all', E.part, E.part', E.part0, E.part0', E.one, E.one', E.one0, E.one0', b1, b2, ev_EAlike]
            exact ⟨m, by omega, k + 1, _, by omega, by rw [take_succ_of hx, hsn]; exact fin, rfl, rfl⟩
          · cases b3 : p s.e
            · rw [b3] at hpy
              simp only [f46b0, go_sem, Nat.reduceAdd, Nat.reduceMul, Nat.reduceSub, Nat.reduceBEq, Nat.reduceEqDiff, Nat.reduceLeDiff, Nat.reduceLT, Nat.reduceBneDiff, Int.reduceAdd, Int.cast_ofNat_Int, Int.toNat_natCast, Int.reduceLE, Int.reduceLT, Int.reduceToNat, Int.reduceEq, ↓reduceIte, i3, i5, i6, i12, i13, i14, d, a1, E.adr, E.adr', E.cel, E.cel', E.all, E.all', E.part, E.part', E.part0, E.part0', E.one, E.one', E.one0, E.one0', b1, b2, ev_EAlike, hpy]
              exact ⟨m, by omega, k + 1, _, by omega, by rw [take_succ_of hx, hsn]; exact fin, rfl, rfl⟩
            · exact absurd (by rw [b1, b2, b3]; rfl) hb
  · exact ⟨0, [], by omega, by simp only [go_sem, Nat.reduceAdd, Nat.reduceMul, Nat.reduceSub, Nat.reduceBEq, Nat.reduceEqDiff, Nat.reduceLeDiff, Nat.reduceLT, Nat.reduceBneDiff, Int.reduceAdd, Int.cast_ofNat_Int, Int.toNat_natCast, Int.reduceLE, Int.reduceLT, Int.reduceToNat, Int.reduceEq, ↓reduceIte]; exact Gr.nil, by simp only [go_sem, Nat.reduceAdd, Nat.reduceMul, Nat.reduceSub, Nat.reduceBEq, Nat.reduceEqDiff, Nat.reduceLeDiff, Nat.reduceLT, Nat.reduceBneDiff, Int.reduceAdd, Int.cast_ofNat_Int, Int.toNat_natCast, Int.reduceLE, Int.reduceLT, Int.reduceToNat, Int.reduceEq, ↓reduceIte], by simp only [go_sem, Nat.reduceAdd, Nat.reduceMul, Nat.reduceSub, Nat.reduceBEq, Nat.reduceEqDiff, Nat.reduceLeDiff, Nat.reduceLT, Nat.reduceBneDiff, Int.reduceAdd, Int.cast_ofNat_Int, Int.toNat_natCast, Int.reduceLE, Int.reduceLT, Int.reduceToNat, Int.reduceEq, ↓reduceIte], by simp only [go_sem, Nat.reduceAdd, Nat.reduceMul, Nat.reduceSub, Nat.reduceBEq, Nat.reduceEqDiff, Nat.reduceLeDiff, Nat.reduceLT, Nat.reduceBneDiff, Int.reduceAdd, Int.cast_ofNat_Int, Int.toNat_natCast, Int.reduceLE, Int.reduceLT, Int.reduceToNat, Int.reduceEq, ↓reduceIte], by simp only [go_sem, Nat.reduceAdd, Nat.reduceMul, Nat.reduceSub, Nat.reduceBEq, Nat.reduceEqDiff, Nat.reduceLeDiff, Nat.reduceLT, Nat.reduceBneDiff, Int.reduceAdd, Int.cast_ofNat_Int, Int.toNat_natCast, Int.reduceLE, Int.reduceLT, Int.reduceToNat, Int.reduceEq, ↓reduceIte], by simp only [go_sem, Nat.reduceAdd, Nat.reduceMul, Nat.reduceSub, Nat.reduceBEq, Nat.reduceEqDiff, Nat.reduceLeDiff, Nat.reduceLT, Nat.reduceBneDiff, Int.reduceAdd, Int.cast_ofNat_Int, Int.toNat_natCast, Int.reduceLE, Int.reduceLT, Int.reduceToNat, Int.reduceEq, ↓reduceIte], by simp only [go_sem, Nat.reduceAdd, Nat.reduceMul, Nat.reduceSub, Nat.reduceBEq, Nat.reduceEqDiff, Nat.reduceLeDiff, Nat.reduceLT, Nat.reduceBneDiff, Int.reduceAdd, Int.cast_ofNat_Int, Int.toNat_natCast, Int.reduceLE, Int.reduceLT, Int.reduceToNat, Int.reduceEq, ↓reduceIte], by simp only [go_sem, Nat.reduceAdd, Nat.reduceMul, Nat.reduceSub, Nat.reduceBEq, Nat.reduceEqDiff, Nat.reduceLeDiff, Nat.reduceLT, Nat.reduceBneDiff, Int.reduceAdd, Int.cast_ofNat_Int, Int.toNat_natCast, Int.reduceLE, Int.reduceLT, Int.reduceToNat, Int.reduceEq, ↓reduceIte]⟩
theorem any_snoc {α : Type} (p : α → Bool) (l : List α) (x : α) : (l ++ [x]).any p = (l.any p || p x) := by simp
theorem twins_in (v : AV) (l : List Sl) (s : Sl) (k : Nat) (G : Heap) (w : List Wr) (hlim : lim ≤ H.length) (hv : Lst Sl.c 7 H v (l.take k)) (hk : k ≤ l.length) (hk6 : k < 1000000) {K : List Frm} {Q : Post} {e : Env}
    (hg : Gr Wr.c 8 H G (e 3) w) (hw : w.length ≤ k) (e4 : e 4 = .int .i64 (k : Int)) (e5 : e 5 = .ptr (H.length + G.length) 0 0) (e18 : e 18 = v) (e19 : e 19 = .int .i64 (k : Int)) (e20 : e 20 = .int .i64 0)
    (g : ∀ (e' : Env) (G' : Heap), Gr Wr.c 8 H G' (e' 3) (w ++ if (l.take k).any (twin s) then [⟨(k : Int), Sl.z⟩] else []) → e' 8 = e 8 → e' 9 = e 9 → e' 10 = e 10 → e' 0 = e 0 → ON (PX hook) lim K (.exit 2) e' (H ++ G') Q) :
    GO (PX hook) lim (.loop f27b0) K e (H ++ (G ++ [Blk.rw 0 7 s.c])) Q := by
  have hlk : (l.take k).length = k := by rw [List.length_take]; omega
  refine GO_loop _ (fun m e' H' => ∃ (j : Nat) (J : Heap), j + m = k ∧ ((l.take k).take j).any (twin s) = false ∧ e' 3 = e 3 ∧ e' 4 = .int .i64 (k : Int) ∧ e' 5 = .ptr (H.length + G.length) 0 0 ∧ e' 18 = v ∧ e' 19 = .int .i64 (k : Int) ∧ e' 20 = .int .i64 (j : Int) ∧ e' 8 = e 8 ∧ e' 9 = e 9 ∧ e' 10 = e 10 ∧ e' 0 = e 0 ∧ H' = H ++ (G ++ (Blk.rw 0 7 s.c :: J))) ?_ k _ _ ?_
  · rintro m e' H' ⟨j, J, hj, hn, i3, i4, i5, i18, i19, i20, i8, i9, i10, i0, rfl⟩
    cases m with
    | zero =>
      have hj' : j = k := by omega
      subst hj'
      rw [List.take_of_length_le (by omega)] at hn
      rw [hn] at g
      simp only [Bool.false_eq_true, if_false, List.append_nil] at g
      simp only [f27b0, go_sem, Nat.reduceAdd, Nat.reduceMul, Nat.reduceSub, Nat.reduceBEq, Nat.reduceEqDiff, Nat.reduceLeDiff, Nat.reduceLT, Nat.reduceBneDiff, Int.reduceAdd, Int.cast_ofNat_Int, Int.toNat_natCast, Int.reduceLE, Int.reduceLT, Int.reduceToNat, Int.reduceEq, ↓reduceIte, i3, i4, i5, i18, i19, i20, lt_false]
      refine g _ (G ++ (Blk.rw 0 7 s.c :: J)) ?_ ?_ ?_ ?_ ?_
      · simp only [go_sem, Nat.reduceAdd, Nat.reduceMul, Nat.reduceSub, Nat.reduceBEq, Nat.reduceEqDiff, Nat.reduceLeDiff, Nat.reduceLT, Nat.reduceBneDiff, Int.reduceAdd, Int.cast_ofNat_Int, Int.toNat_natCast, Int.reduceLE, Int.reduceLT, Int.reduceToNat, Int.reduceEq, ↓reduceIte, i3]; exact hg.ext _
      all_goals simp only [go_sem, Nat.reduceAdd, Nat.reduceMul, Nat.reduceSub, Nat.reduceBEq, Nat.reduceEqDiff, Nat.reduceLeDiff, Nat.reduceLT, Nat.reduceBneDiff, Int.reduceAdd, Int.cast_ofNat_Int, Int.toNat_natCast, Int.reduceLE, Int.reduceLT, Int.reduceToNat, Int.reduceEq, ↓reduceIte, i8, i9, i10, i0]
    | succ m =>
      obtain ⟨y, hy, _⟩ := get_of_lt (show j < (l.take k).length by omega)
      obtain ⟨id, ver, q, E⟩ := hv.at (by omega) Sl.len hy
      have d := lt_true (show j < k by omega)
      have a1 := wrap_succ (show j < 1000000 by omega)
      have hsn : ((l.take k).take (j + 1)).any (twin s) = (((l.take k).take j).any (twin s) || twin s y) := by rw [take_succ_of hy, any_snoc]
      by_cases ht : twin s y = true
      · have hany : (l.take k).any (twin s) = true := by
          rw [List.any_eq_true]; exact ⟨y, List.mem_of_getElem? hy, ht⟩
        rw [hany] at g
        simp only [if_true] at g
        unfold twin at ht
        simp only [Bool.and_eq_true] at ht
        obtain ⟨b1, b2, b3⟩ := ht
        obtain ⟨v', G', ha, hg'⟩ := hg.push (bytes := 64) (lim := lim) (Blk.rw 0 7 s.c :: (J ++ [Blk.rw 0 7 y.c])) (⟨(k : Int), Sl.z⟩ : Wr) rfl hlim (by omega)
        simp only [Wr.c, Sl.z, En.z, hi_zero, lo_zero, go_sem, Nat.reduceAdd, Nat.reduceMul, Nat.reduceSub, Nat.reduceBEq, Nat.reduceEqDiff, Nat.reduceLeDiff, Nat.reduceLT, Nat.reduceBneDiff, Int.reduceAdd, Int.cast_ofNat_Int, Int.toNat_natCast, Int.reduceLE, Int.reduceLT, Int.reduceToNat, Int.reduceEq, ↓reduceIte] at ha
        simp only [f27b0, go_sem, Nat.reduceAdd, Nat.reduceMul, Nat.reduceSub, Nat.reduceBEq, Nat.reduceEqDiff, Nat.reduceLeDiff, Nat.reduceLT, Nat.reduceBneDiff, Int.reduceAdd, Int.cast_ofNat_Int, Int.toNat_natCast, Int.reduceLE, Int.reduceLT, Int.reduceToNat, Int.reduceEq, ↓reduceIte, i3, i4, i5, i18, i19, i20, d, a1, hlim, E.adr, E.adr', E.cel, E.cel', E.all, E.all', E.part, E.part', E.part0, E.part0', E.one, E.one', E.one0, E.one0', b1, b2, b3, ev_EAlike, ha]
        exact g _ G' (by simp only [go_sem, Nat.reduceAdd, Nat.reduceMul, Nat.reduceSub, Nat.reduceBEq, Nat.reduceEqDiff, Nat.reduceLeDiff, Nat.reduceLT, Nat.reduceBneDiff, Int.reduceAdd, Int.cast_ofNat_Int, Int.toNat_natCast, Int.reduceLE, Int.reduceLT, Int.reduceToNat, Int.reduceEq, ↓reduceIte]; exact hg') (by simp only [go_sem, Nat.reduceAdd, Nat.reduceMul, Nat.reduceSub, Nat.reduceBEq, Nat.reduceEqDiff, Nat.reduceLeDiff, Nat.reduceLT, Nat.reduceBneDiff, Int.reduceAdd, Int.cast_ofNat_Int, Int.toNat_natCast, Int.reduceLE, Int.reduceLT, Int.reduceToNat, Int.reduceEq, ↓reduceIte, i8]) (by simp only [go_sem, Nat.reduceAdd, Nat.reduceMul, Nat.reduceSub, Nat.reduceBEq, Nat.reduceEqDiff, Nat.reduceLeDiff, Nat.reduceLT, Nat.reduceBneDiff, Int.reduceAdd, Int.cast_ofNat_Int, Int.toNat_natCast, Int.reduceLE, Int.reduceLT, Int.reduceToNat, Int.reduceEq, ↓reduceIte, i9]) (by simp only [go_sem, Nat.reduceAdd, Nat.reduceMul, Nat.reduceSub, Nat.reduceBEq, Nat.reduceEqDiff, Nat.reduceLeDiff, Nat.reduceLT, Nat.reduceBneDiff, Int.reduceAdd, Int.cast_ofNat_Int, Int.toNat_natCast, Int.reduceLE, Int.reduceLT, Int.reduceToNat, Int.reduceEq, ↓reduceIte, i10]) (by simp only [go_sem, Nat.reduceAdd, Nat.reduceMul, Nat.reduceSub, Nat.reduceBEq, Nat.reduceEqDiff, Nat.reduceLeDiff, Nat.reduceLT, Nat.reduceBneDiff, Int.reduceAdd, Int.cast_ofNat_Int, Int.toNat_natCast, Int.reduceLE, Int.reduceLT, Int.reduceToNat, Int.reduceEq, ↓reduceIte, i0])
      · have ht' : twin s y = false := by simpa using ht
        rw [ht', hn] at hsn
        have fin : ∀ (b : AV), True := fun _ => trivial
        unfold twin at ht'
        cases b1 : s.ok
        · simp only [f27b0, go_sem, Nat.reduceAdd, Nat.reduceMul, Nat.reduceSub, Nat.reduceBEq, Nat.reduceEqDiff, Nat.reduceLeDiff, Nat.reduceLT, Nat.reduceBneDiff, Int.reduceAdd, Int.cast_ofNat_Int, Int.toNat_natCast, Int.reduceLE, Int.reduceLT, Int.reduceToNat, Int.reduceEq, ↓reduceIte, i3, i4, i5, i18, i19, i20, d, a1, hlim, E.adr, E.adr', E.cel, E.cel', E.all, E.all', E.part, E.part', E.part0, E.part0', E.one, E.one', E.one0, E.one0', b1]
          exact ⟨m, by omega, j + 1, J ++ [Blk.rw 0 7 y.c], by omega, hsn, rfl, i8, i9, i10, i0, rfl⟩
        · cases b2 : y.ok
          · simp only [f27b0, go_sem, Nat.reduceAdd, Nat.reduceMul, Nat.reduceSub, Nat.reduceBEq, Nat.reduceEqDiff, Nat.reduceLeDiff, Nat.reduceLT, Nat.reduceBneDiff, Int.reduceAdd, Int.cast_ofNat_Int, Int.toNat_natCast, Int.reduceLE, Int.reduceLT, Int.reduceToNat, Int.reduceEq, ↓reduceIte, i3, i4, i5, i18, i19, i20, d, a1, hlim, E.adr, E.adr', E.cel, E.cel', E.all, E.all', E.part, E.part', E.part0, E.part0', E.one, E.one', E.one0, E.one0', b1, b2]
            exact ⟨m, by omega, j + 1, J ++ [Blk.rw 0 7 y.c], by omega, hsn, rfl, i8, i9, i10, i0, rfl⟩
          · have b3 : s.e.alike y.e = false := by rw [b1, b2] at ht'; simpa using ht'
            simp only [f27b0, go_sem, Nat.reduceAdd, Nat.reduceMul, Nat.reduceSub, Nat.reduceBEq, Nat.reduceEqDiff, Nat.reduceLeDiff, Nat.reduceLT, Nat.reduceBneDiff, Int.reduceAdd, Int.cast_ofNat_Int, Int.toNat_natCast, Int.reduceLE, Int.reduceLT, Int.reduceToNat, Int.reduceEq, ↓reduceIte, i3, i4, i5, i18, i19, i20, d, a1, hlim, E.adr, E.adr', E.cel, E.cel', E.all, E.all', E.part, E.part', E.part0, E.part0', E.one, E.one', E.one0, E.one0', b1, b2, b3, ev_EAlike]
            exact ⟨m, by omega, j + 1, J ++ [Blk.rw 0 7 y.c], by omega, hsn, rfl, i8, i9, i10, i0, rfl⟩
  · exact ⟨0, [], by omega, by simp, rfl, e4, e5, e18, e19, e20, rfl, rfl, rfl, rfl, rfl⟩
theorem ev_Twins (v : AV) (l : List Sl) (hv : Lst Sl.c 7 H v l) (hl : l.length < 1000000) : ∃ v' L, ev (PX hook) lim 27 [v] H = some (v', H ++ L) ∧ Gr Wr.c 8 H L v' (twinsW [] l) := by
  suffices hs : EV (PX hook) lim 27 [v] H fun v' H' => ∃ L, H' = H ++ L ∧ Gr Wr.c 8 H L v' (twinsW [] l) by
    rw [EV_iff] at hs; obtain ⟨v', H', h1, L, rfl, h2⟩ := hs; exact ⟨v', L, h1, h2⟩
  rw [EV_own _ (PF t27) rfl (by decide)]
  have hlen := hv.len'
  simp only [f27, go_sem, Nat.reduceAdd, Nat.reduceMul, Nat.reduceSub, Nat.reduceBEq, Nat.reduceEqDiff, Nat.reduceLeDiff, Nat.reduceLT, Nat.reduceBneDiff, Int.reduceAdd, Int.cast_ofNat_Int, Int.toNat_natCast, Int.reduceLE, Int.reduceLT, Int.reduceToNat, Int.reduceEq, ↓reduceIte, hlen]
  refine GO_loop _ (fun m e H' => ∃ (k : Nat) (G : Heap), k + m = l.length ∧ Gr Wr.c 8 H G (e 3) (twinsW [] (l.take k)) ∧ e 0 = v ∧ e 8 = v ∧ e 9 = .int .i64 (l.length : Int) ∧ e 10 = .int .i64 (k : Int) ∧ H' = H ++ G) ?_ l.length _ _ ?_
  · rintro m e H' ⟨k, G, hk, hg, i0, i8, i9, i10, rfl⟩
    cases m with
    | zero =>
      have hk' : k = l.length := by omega
      subst hk'
      rw [List.take_length] at hg
      obtain ⟨v', L', hfin, hsh⟩ := hg.keep0 Wr.fl
      simp only [f27b1, go_sem, Nat.reduceAdd, Nat.reduceMul, Nat.reduceSub, Nat.reduceBEq, Nat.reduceEqDiff, Nat.reduceLeDiff, Nat.reduceLT, Nat.reduceBneDiff, Int.reduceAdd, Int.cast_ofNat_Int, Int.toNat_natCast, Int.reduceLE, Int.reduceLT, Int.reduceToNat, Int.reduceEq, ↓reduceIte, i0, i8, i9, i10, lt_false, hfin]
      exact ⟨L', rfl, hsh⟩
    | succ m =>
      obtain ⟨s, hx, _⟩ := get_of_lt (show k < l.length by omega)
      obtain ⟨id, ver, q, E⟩ := hv.at (by omega) Sl.len hx
      have d := lt_true (show k < l.length by omega)
      have a1 := wrap_succ (show k < 1000000 by omega)
      obtain ⟨vs, s1, s2, s3⟩ := hv.subm Sl.len k (by omega)
      have hls := s3.len
      have hlk : (l.take k).length = k := by rw [List.length_take]; omega
      rw [hlk] at hls
      have hsn := twinsW_snoc [] (l.take k) s
      rw [List.nil_append, hlk] at hsn
      have hle := twinsW_le [] (l.take k)
      simp only [f27b1, go_sem, Nat.reduceAdd, Nat.reduceMul, Nat.reduceSub, Nat.reduceBEq, Nat.reduceEqDiff, Nat.reduceLeDiff, Nat.reduceLT, Nat.reduceBneDiff, Int.reduceAdd, Int.cast_ofNat_Int, Int.toNat_natCast, Int.reduceLE, Int.reduceLT, Int.reduceToNat, Int.reduceEq, ↓reduceIte, i0, i8, i9, i10, d, a1, E.adr, E.adr', E.cel, E.cel', E.all, E.all', E.part, E.part', E.part0, E.part0', E.one, E.one', E.one0, E.one0', s1, hls]
      refine twins_in vs l s k G (twinsW [] (l.take k)) (Nat.le_refl _) s3 (by omega) (by omega) (by simp only [go_sem, Nat.reduceAdd, Nat.reduceMul, Nat.reduceSub, Nat.reduceBEq, Nat.reduceEqDiff, Nat.reduceLeDiff, Nat.reduceLT, Nat.reduceBneDiff, Int.reduceAdd, Int.cast_ofNat_Int, Int.toNat_natCast, Int.reduceLE, Int.reduceLT, Int.reduceToNat, Int.reduceEq, ↓reduceIte]; exact hg) (by omega) (by simp only [go_sem, Nat.reduceAdd, Nat.reduceMul, Nat.reduceSub, Nat.reduceBEq, Nat.reduceEqDiff, Nat.reduceLeDiff, Nat.reduceLT, Nat.reduceBneDiff, Int.reduceAdd, Int.cast_ofNat_Int, Int.toNat_natCast, Int.reduceLE, Int.reduceLT, Int.reduceToNat, Int.reduceEq, ↓reduceIte]) (by simp only [go_sem, Nat.reduceAdd, Nat.reduceMul, Nat.reduceSub, Nat.reduceBEq, Nat.reduceEqDiff, Nat.reduceLeDiff, Nat.reduceLT, Nat.reduceBneDiff, Int.reduceAdd, Int.cast_ofNat_Int, Int.toNat_natCast, Int.reduceLE, Int.reduceLT, Int.reduceToNat, Int.reduceEq, ↓reduceIte]) (by simp only [go_sem, Nat.reduceAdd, Nat.reduceMul, Nat.reduceSub, Nat.reduceBEq, Nat.reduceEqDiff, Nat.reduceLeDiff, Nat.reduceLT, Nat.reduceBneDiff, Int.reduceAdd, Int.cast_ofNat_Int, Int.toNat_natCast, Int.reduceLE, Int.reduceLT, Int.reduceToNat, Int.reduceEq, ↓reduceIte]) (by simp only [go_sem, Nat.reduceAdd, Nat.reduceMul, Nat.reduceSub, Nat.reduceBEq, Nat.reduceEqDiff, Nat.reduceLeDiff, Nat.reduceLT, Nat.reduceBneDiff, Int.reduceAdd, Int.cast_ofNat_Int, Int.toNat_natCast, Int.reduceLE, Int.reduceLT, Int.reduceToNat, Int.reduceEq, ↓reduceIte]) (by simp only [go_sem, Nat.reduceAdd, Nat.reduceMul, Nat.reduceSub, Nat.reduceBEq, Nat.reduceEqDiff, Nat.reduceLeDiff, Nat.reduceLT, Nat.reduceBneDiff, Int.reduceAdd, Int.cast_ofNat_Int, Int.toNat_natCast, Int.reduceLE, Int.reduceLT, Int.reduceToNat, Int.reduceEq, ↓reduceIte]) ?_
      intro e' G' hg' j8 j9 j10 j0
      simp only [go_sem, Nat.reduceAdd, Nat.reduceMul, Nat.reduceSub, Nat.reduceBEq, Nat.reduceEqDiff, Nat.reduceLeDiff, Nat.reduceLT, Nat.reduceBneDiff, Int.reduceAdd, Int.cast_ofNat_Int, Int.toNat_natCast, Int.reduceLE, Int.reduceLT, Int.reduceToNat, Int.reduceEq, ↓reduceIte, i0, i8, i9, i10] at j8 j9 j10 j0
      simp only [go_sem, Nat.reduceAdd, Nat.reduceMul, Nat.reduceSub, Nat.reduceBEq, Nat.reduceEqDiff, Nat.reduceLeDiff, Nat.reduceLT, Nat.reduceBneDiff, Int.reduceAdd, Int.cast_ofNat_Int, Int.toNat_natCast, Int.reduceLE, Int.reduceLT, Int.reduceToNat, Int.reduceEq, ↓reduceIte, j10, a1]
      exact ⟨m, by omega, k + 1, G', by omega, by rw [take_succ_of hx, hsn]; exact hg', j0, j8, j9, rfl, rfl⟩
  · exact ⟨0, [], by omega, Gr.nil, by simp only [go_sem, Nat.reduceAdd, Nat.reduceMul, Nat.reduceSub, Nat.reduceBEq, Nat.reduceEqDiff, Nat.reduceLeDiff, Nat.reduceLT, Nat.reduceBneDiff, Int.reduceAdd, Int.cast_ofNat_Int, Int.toNat_natCast, Int.reduceLE, Int.reduceLT, Int.reduceToNat, Int.reduceEq, ↓reduceIte], by simp only [go_sem, Nat.reduceAdd, Nat.reduceMul, Nat.reduceSub, Nat.reduceBEq, Nat.reduceEqDiff, Nat.reduceLeDiff, Nat.reduceLT, Nat.reduceBneDiff, Int.reduceAdd, Int.cast_ofNat_Int, Int.toNat_natCast, Int.reduceLE, Int.reduceLT, Int.reduceToNat, Int.reduceEq, ↓reduceIte], by simp only [go_sem, Nat.reduceAdd, Nat.reduceMul, Nat.reduceSub, Nat.reduceBEq, Nat.reduceEqDiff, Nat.reduceLeDiff, Nat.reduceLT, Nat.reduceBneDiff, Int.reduceAdd, Int.cast_ofNat_Int, Int.toNat_natCast, Int.reduceLE, Int.reduceLT, Int.reduceToNat, Int.reduceEq, ↓reduceIte], by simp only [go_sem, Nat.reduceAdd, Nat.reduceMul, Nat.reduceSub, Nat.reduceBEq, Nat.reduceEqDiff, Nat.reduceLeDiff, Nat.reduceLT, Nat.reduceBneDiff, Int.reduceAdd, Int.cast_ofNat_Int, Int.toNat_natCast, Int.reduceLE, Int.reduceLT, Int.reduceToNat, Int.reduceEq, ↓reduceIte], by simp only [go_sem, Nat.reduceAdd, Nat.reduceMul, Nat.reduceSub, Nat.reduceBEq, Nat.reduceEqDiff, Nat.reduceLeDiff, Nat.reduceLT, Nat.reduceBneDiff, Int.reduceAdd, Int.cast_ofNat_Int, Int.toNat_natCast, Int.reduceLE, Int.reduceLT, Int.reduceToNat, Int.reduceEq, ↓reduceIte]⟩
end Go.Proofs.Ytmjanbhmpbhagaa.C
