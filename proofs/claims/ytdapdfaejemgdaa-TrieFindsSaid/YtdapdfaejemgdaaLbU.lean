/- THE TRIE'S FUNCTIONS THAT ONLY LOOK: what each comes to. Conditions: the trie's blocks stand as told. -/
import Derived.Test.YtdapdfaejemgdaaLbB
import Derived.Test.YtdapdfaejemgdaaLbT
set_option linter.unusedVariables false
set_option linter.unusedSimpArgs false
namespace Go.Proofs.Ytdapdfaejemgdaa.C
open Go.AM
variable {hook : Nat → Nat → List AV → Heap → Option (AV × Heap)} {lim : Nat} {H : Heap}

/-- A trie stands in the heap: its block, its nodes' block. -/
structure Sees (H : Heap) (tid : Nat) (w many : Int) (lid lv : Nat) (lm : Bool) (fv : AV) (lc : List AV) (nn : Nat) (fr : List Nat) (N : List Bool → Nat) (T : List Bool → Int) : Prop where
  top : H.cells tid 0 = some [.int .i64 w, .int .i64 many, .sl lid lv 0 nn lm, fv]
  nodes : H.cells lid lv = some lc
  rep : Rep lc nn fr N T
  small : nn < 1000000
variable {tid : Nat} {w many : Int} {lid lv : Nat} {lm : Bool} {fv : AV} {lc : List AV} {nn : Nat} {fr : List Nat} {N : List Bool → Nat} {T : List Bool → Int}
theorem Sees.top' (h : Sees H tid w many lid lv lm fv lc nn fr N T) (L : Heap) : Heap.cells (H ++ L) tid 0 = some [.int .i64 w, .int .i64 many, .sl lid lv 0 nn lm, fv] := Heap.cells_old h.top
theorem Sees.nodes' (h : Sees H tid w many lid lv lm fv lc nn fr N T) (L : Heap) : Heap.cells (H ++ L) lid lv = some lc := Heap.cells_old h.nodes
theorem Sees.more (h : Sees H tid w many lid lv lm fv lc nn fr N T) (L : Heap) : Sees (H ++ L) tid w many lid lv lm fv lc nn fr N T := ⟨h.top' L, h.nodes' L, h.rep, h.small⟩
theorem down_pth (h : Rep lc nn fr N T) (a : Adr) (k n : Nat) (hk : k ≤ n) (e : N (pth a k) = 0) : N (pth a n) = 0 := by
  induction n with
  | zero => have : k = 0 := by omega
            subst this; exact e
  | succ n ih =>
    by_cases hn : k = n + 1
    · subst hn; exact e
    · rw [pth_succ]; exact h.down _ _ (ih (by omega))

theorem ev_find (h : Sees H tid w many lid lv lm fv lc nn fr N T) (a : Adr) (n : Nat) (hn : n ≤ 128) : ev (PX hook) lim 42 [.ptr tid 0 0, .agg [u64 (hi a), u64 (lo a), .int .i64 (n : Int)]] H = some (.int .i64 (N (pth a n) : Int), H) := by
  refine ev_own _ (PF t42) rfl (by decide) ?_
  have htop := h.top'
  have hnod := h.nodes'
  have hsm := h.small
  simp only [f42, go_sem, Nat.reduceAdd, Nat.reduceMul, Nat.reduceSub, Nat.reduceBEq, Nat.reduceEqDiff, Nat.reduceLeDiff, Nat.reduceLT, Nat.reduceBneDiff, Int.reduceAdd, Int.cast_ofNat_Int, Int.toNat_natCast, Int.reduceLE, Int.reduceLT, Int.reduceToNat, Int.reduceEq, ↓reduceIte]
  refine GO_loop _ (fun m e H' => ∃ k : Nat, k + m = n ∧ e 0 = .ptr tid 0 0 ∧ e 3 = .ptr H.length 0 0 ∧ e 5 = .int .i64 (N (pth a k) : Int) ∧ e 6 = .int .i64 (k : Int) ∧ H' = H ++ [Blk.rw 0 3 [u64 (hi a), u64 (lo a), .int .i64 (n : Int)]]) ?_ n _ _ ?_
  · rintro m e H' ⟨k, hk, i0, i3, i5, i6, rfl⟩
    cases m with
    | zero =>
      have hk' : k = n := by omega
      subst hk'
      have d : decide ((k : Int) < (k : Int)) = false := by simp
      simp only [f42b0, go_sem, Nat.reduceAdd, Nat.reduceMul, Nat.reduceSub, Nat.reduceBEq, Nat.reduceEqDiff, Nat.reduceLeDiff, Nat.reduceLT, Nat.reduceBneDiff, Int.reduceAdd, Int.cast_ofNat_Int, Int.toNat_natCast, Int.reduceLE, Int.reduceLT, Int.reduceToNat, Int.reduceEq, ↓reduceIte, i0, i3, i5, i6, d]
    | succ m =>
      have d : decide ((k : Int) < (n : Int)) = true := by rw [decide_eq_true_eq]; omega
      by_cases e0 : N (pth a k) = 0
      · have d2 : decide ((0 : Int) < ((N (pth a k) : Nat) : Int)) = false := by rw [decide_eq_false_iff_not]; omega
        simp only [f42b0, go_sem, Nat.reduceAdd, Nat.reduceMul, Nat.reduceSub, Nat.reduceBEq, Nat.reduceEqDiff, Nat.reduceLeDiff, Nat.reduceLT, Nat.reduceBneDiff, Int.reduceAdd, Int.cast_ofNat_Int, Int.toNat_natCast, Int.reduceLE, Int.reduceLT, Int.reduceToNat, Int.reduceEq, ↓reduceIte, i0, i3, i5, i6, d, d2]
        rw [e0, down_pth h.rep a k n (by omega) e0]
      · have d2 : decide ((0 : Int) < ((N (pth a k) : Nat) : Int)) = true := by rw [decide_eq_true_eq]; omega
        have a1 : IntKind.wrap .i64 ((k : Int) + 1) = ((k + 1 : Nat) : Int) := by rw [wrap_i64] <;> omega
        have hlt := h.rep.lt (pth a k)
        have a3 : (0 : Int) ≤ (N (pth a k) : Int) := by omega
        have a4 : (N (pth a k) : Int) < (nn : Int) := by omega
        have c0 := h.rep.child0 (pth a k)
        have c1 := h.rep.child1 (pth a k)
        have pe := pth_succ a k
        cases hb : bitA a k
        · rw [hb] at pe
          simp only [f42b0, go_sem, Nat.reduceAdd, Nat.reduceMul, Nat.reduceSub, Nat.reduceBEq, Nat.reduceEqDiff, Nat.reduceLeDiff, Nat.reduceLT, Nat.reduceBneDiff, Int.reduceAdd, Int.cast_ofNat_Int, Int.toNat_natCast, Int.reduceLE, Int.reduceLT, Int.reduceToNat, Int.reduceEq, ↓reduceIte, i0, i3, i5, i6, d, d2, a1, htop, hnod, ev_side, a3, a4, hb, Bool.false_eq_true, c0]
          exact ⟨m, by omega, k + 1, by omega, by rw [pe], rfl⟩
        · rw [hb] at pe
          simp only [f42b0, go_sem, Nat.reduceAdd, Nat.reduceMul, Nat.reduceSub, Nat.reduceBEq, Nat.reduceEqDiff, Nat.reduceLeDiff, Nat.reduceLT, Nat.reduceBneDiff, Int.reduceAdd, Int.cast_ofNat_Int, Int.toNat_natCast, Int.reduceLE, Int.reduceLT, Int.reduceToNat, Int.reduceEq, ↓reduceIte, i0, i3, i5, i6, d, d2, a1, htop, hnod, ev_side, a3, a4, hb, c1]
          exact ⟨m, by omega, k + 1, by omega, by rw [pe], rfl⟩
  · exact ⟨0, by omega, by simp only [go_sem, Nat.reduceAdd, Nat.reduceMul, Nat.reduceSub, Nat.reduceBEq, Nat.reduceEqDiff, Nat.reduceLeDiff, Nat.reduceLT, Nat.reduceBneDiff, Int.reduceAdd, Int.cast_ofNat_Int, Int.toNat_natCast, Int.reduceLE, Int.reduceLT, Int.reduceToNat, Int.reduceEq, ↓reduceIte], by simp only [go_sem, Nat.reduceAdd, Nat.reduceMul, Nat.reduceSub, Nat.reduceBEq, Nat.reduceEqDiff, Nat.reduceLeDiff, Nat.reduceLT, Nat.reduceBneDiff, Int.reduceAdd, Int.cast_ofNat_Int, Int.toNat_natCast, Int.reduceLE, Int.reduceLT, Int.reduceToNat, Int.reduceEq, ↓reduceIte], by rw [pth_zero, h.rep.root]; simp only [go_sem, Nat.reduceAdd, Nat.reduceMul, Nat.reduceSub, Nat.reduceBEq, Nat.reduceEqDiff, Nat.reduceLeDiff, Nat.reduceLT, Nat.reduceBneDiff, Int.reduceAdd, Int.cast_ofNat_Int, Int.toNat_natCast, Int.reduceLE, Int.reduceLT, Int.reduceToNat, Int.reduceEq, ↓reduceIte], by simp only [go_sem, Nat.reduceAdd, Nat.reduceMul, Nat.reduceSub, Nat.reduceBEq, Nat.reduceEqDiff, Nat.reduceLeDiff, Nat.reduceLT, Nat.reduceBneDiff, Int.reduceAdd, Int.cast_ofNat_Int, Int.toNat_natCast, Int.reduceLE, Int.reduceLT, Int.reduceToNat, Int.reduceEq, ↓reduceIte], rfl⟩
theorem ev_Len (h : Sees H tid w many lid lv lm fv lc nn fr N T) : ev (PX hook) lim 13 [.ptr tid 0 0] H = some (.int .i64 many, H) := by
  refine ev_own _ (PF t13) rfl (by decide) ?_
  simp only [f13, go_sem, Nat.reduceAdd, Nat.reduceMul, Nat.reduceSub, Nat.reduceBEq, Nat.reduceEqDiff, Nat.reduceLeDiff, Nat.reduceLT, Nat.reduceBneDiff, Int.reduceAdd, Int.cast_ofNat_Int, Int.toNat_natCast, Int.reduceLE, Int.reduceLT, Int.reduceToNat, Int.reduceEq, ↓reduceIte, h.top]
theorem ev_Nodes (h : Sees H tid w many lid lv lm fv lc nn fr N T) {n : Nat} (hf : lenV H fv = some (.int .i64 (n : Int))) (hn : n ≤ nn) : ev (PX hook) lim 28 [.ptr tid 0 0] H = some (.int .i64 ((nn : Int) - 1 - n), H) := by
  refine ev_own _ (PF t28) rfl (by decide) ?_
  have hsm := h.small
  have e1 : IntKind.wrap .i64 ((nn : Int) - 1) = (nn : Int) - 1 := by rw [wrap_i64] <;> omega
  have e2 : IntKind.wrap .i64 ((nn : Int) - 1 - (n : Int)) = (nn : Int) - 1 - n := by rw [wrap_i64] <;> omega
  simp only [f28, go_sem, Nat.reduceAdd, Nat.reduceMul, Nat.reduceSub, Nat.reduceBEq, Nat.reduceEqDiff, Nat.reduceLeDiff, Nat.reduceLT, Nat.reduceBneDiff, Int.reduceAdd, Int.cast_ofNat_Int, Int.toNat_natCast, Int.reduceLE, Int.reduceLT, Int.reduceToNat, Int.reduceEq, ↓reduceIte, h.top, h.nodes, e1, hf, e2]
theorem ev_Width (h : Sees H tid w many lid lv lm fv lc nn fr N T) : ev (PX hook) lim 33 [.ptr tid 0 0] H = some (.int .i64 w, H) := by
  refine ev_own _ (PF t33) rfl (by decide) ?_
  simp only [f33, go_sem, Nat.reduceAdd, Nat.reduceMul, Nat.reduceSub, Nat.reduceBEq, Nat.reduceEqDiff, Nat.reduceLeDiff, Nat.reduceLT, Nat.reduceBneDiff, Int.reduceAdd, Int.cast_ofNat_Int, Int.toNat_natCast, Int.reduceLE, Int.reduceLT, Int.reduceToNat, Int.reduceEq, ↓reduceIte, h.top]
/-- The route of a prefix, or nothing. -/
def getV (w : Int) (T : List Bool → Int) (a : Adr) (n : Int) : AV :=
  if rightP w a n = true ∧ T (pth a n.toNat) ≠ 0 then .tup [.agg [u64 (hi a), u64 (lo a), .int .i64 n, .int .i64 (T (pth a n.toNat))], .bool true] else .tup [.agg [u64 0#64, u64 0#64, .int .i64 0, .int .i64 0], .bool false]
theorem ev_Get (h : Sees H tid w many lid lv lm fv lc nn fr N T) (a : Adr) (n : Int) : ev (PX hook) lim 12 [.ptr tid 0 0, .agg [u64 (hi a), u64 (lo a), .int .i64 n]] H = some (getV w T a n, H) := by
  refine ev_own _ (PF t12) rfl (by decide) ?_
  have htop := h.top'
  have hnod := h.nodes'
  cases hr : rightP w a n
  · simp only [f12, go_sem, Nat.reduceAdd, Nat.reduceMul, Nat.reduceSub, Nat.reduceBEq, Nat.reduceEqDiff, Nat.reduceLeDiff, Nat.reduceLT, Nat.reduceBneDiff, Int.reduceAdd, Int.cast_ofNat_Int, Int.toNat_natCast, Int.reduceLE, Int.reduceLT, Int.reduceToNat, Int.reduceEq, ↓reduceIte, htop, ev_Right, hr]
    simp [getV, hr]
  · have hr' := (rightP_iff w a n).1 hr
    have hn : ((n.toNat : Nat) : Int) = n := by omega
    have hfind := fun L => ev_find (hook := hook) (lim := H.length) (h.more L) a n.toNat (by omega)
    rw [hn] at hfind
    have hlt := h.rep.lt (pth a n.toNat)
    have a3 : (0 : Int) ≤ (N (pth a n.toNat) : Int) := by omega
    have a4 : (N (pth a n.toNat) : Int) < (nn : Int) := by omega
    have c := h.rep.act (pth a n.toNat)
    by_cases ht : T (pth a n.toNat) = 0
    · rw [ht] at c
      have z : ((0 : Int) == 0) = true := rfl
      simp only [f12, go_sem, Nat.reduceAdd, Nat.reduceMul, Nat.reduceSub, Nat.reduceBEq, Nat.reduceEqDiff, Nat.reduceLeDiff, Nat.reduceLT, Nat.reduceBneDiff, Int.reduceAdd, Int.cast_ofNat_Int, Int.toNat_natCast, Int.reduceLE, Int.reduceLT, Int.reduceToNat, Int.reduceEq, ↓reduceIte, htop, hnod, ev_Right, hr, hfind, a3, a4, c, z]
      simp [getV, ht]
    · have z : (T (pth a n.toNat) == 0) = false := by simp [ht]
      simp only [f12, go_sem, Nat.reduceAdd, Nat.reduceMul, Nat.reduceSub, Nat.reduceBEq, Nat.reduceEqDiff, Nat.reduceLeDiff, Nat.reduceLT, Nat.reduceBneDiff, Int.reduceAdd, Int.cast_ofNat_Int, Int.toNat_natCast, Int.reduceLE, Int.reduceLT, Int.reduceToNat, Int.reduceEq, ↓reduceIte, htop, hnod, ev_Right, hr, hfind, a3, a4, c, z]
      simp [getV, ht, hr]

/-- The last route ahead of so many bits. -/
def lastB (T : List Bool → Int) (a : Adr) : Nat → Option Nat
  | 0 => none
  | k + 1 => if T (pth a k) ≠ 0 then some k else lastB T a k
def routeC (T : List Bool → Int) (a : Adr) : Option Nat → List AV
  | some k => [u64 (hi (cutA a k)), u64 (lo (cutA a k)), .int .i64 (k : Int), .int .i64 (T (pth a k))]
  | none => [u64 0#64, u64 0#64, .int .i64 0, .int .i64 0]
def actOf (T : List Bool → Int) (a : Adr) : Option Nat → Int
  | some k => T (pth a k)
  | none => 0
def lastV (T : List Bool → Int) (a : Adr) (o : Option Nat) : AV := .tup [.agg (routeC T a o), .bool (decide (0 < actOf T a o))]
theorem lastB_stop (T : List Bool → Int) (a : Adr) (k n : Nat) (h : ∀ j, k ≤ j → T (pth a j) = 0) (hk : k ≤ n) : lastB T a n = lastB T a k := by
  induction n with
  | zero => have : k = 0 := by omega
            subst this; rfl
  | succ n ih =>
    by_cases e : k = n + 1
    · subst e; rfl
    · rw [lastB, if_neg (fun g => g (h n (by omega))), ih (by omega)]
theorem routeC_flats (T : List Bool → Int) (a : Adr) (o : Option Nat) : AV.flats (routeC T a o) = true := by cases o <;> rfl
theorem routeC_len (T : List Bool → Int) (a : Adr) (o : Option Nat) : (routeC T a o).length = 4 := by cases o <;> rfl
theorem routeC_3 (T : List Bool → Int) (a : Adr) (o : Option Nat) : (routeC T a o)[3]? = some (.int .i64 (actOf T a o)) := by cases o <;> rfl
theorem routeC_put (T : List Bool → Int) (a : Adr) (o : Option Nat) (x0 x1 x2 x3 : AV) : ((((routeC T a o).set 0 x0).set 1 x1).set 2 x2).set 3 x3 = [x0, x1, x2, x3] := by cases o <;> rfl
theorem routeC_take (T : List Bool → Int) (a : Adr) (o : Option Nat) : List.take 4 (routeC T a o) = routeC T a o := List.take_of_length_le (by rw [routeC_len]; exact Nat.le_refl _)
theorem zero4_put (T : List Bool → Int) (a : Adr) (o : Option Nat) : putCells [u64 0#64, u64 0#64, .int .i64 0, .int .i64 0] 0 (routeC T a o) = routeC T a o := by cases o <;> rfl
theorem ev_last (h : Sees H tid w many lid lv lm fv lc nn fr N T) (hT : ∀ q, 0 ≤ T q) (a : Adr) (n : Nat) (hn : n ≤ 128) : ev (PX hook) lim 44 [.ptr tid 0 0, .agg [u64 (hi a), u64 (lo a)], .int .i64 (n : Int)] H = some (lastV T a (lastB T a (n + 1)), H) := by
  refine ev_own _ (PF t44) rfl (by decide) ?_
  have htop := h.top'
  have hnod := h.nodes'
  have hsm := h.small
  simp only [f44, go_sem, Nat.reduceAdd, Nat.reduceMul, Nat.reduceSub, Nat.reduceBEq, Nat.reduceEqDiff, Nat.reduceLeDiff, Nat.reduceLT, Nat.reduceBneDiff, Int.reduceAdd, Int.cast_ofNat_Int, Int.toNat_natCast, Int.reduceLE, Int.reduceLT, Int.reduceToNat, Int.reduceEq, ↓reduceIte]
  refine GO_loop _ (fun m e H' => ∃ k : Nat, k + m = n + 1 ∧ e 0 = .ptr tid 0 0 ∧ e 2 = .int .i64 (n : Int) ∧ e 4 = .ptr H.length 0 0 ∧ e 6 = .ptr (H.length + 1) 0 0 ∧ e 8 = .ptr (H.length + 2) 0 0 ∧ e 9 = .int .i64 (N (pth a k) : Int) ∧ e 10 = .int .i64 (k : Int) ∧ H' = H ++ [Blk.rw 0 2 [u64 (hi a), u64 (lo a)], .rw 0 4 [u64 0#64, u64 0#64, .int .i64 0, .int .i64 0], .rw 0 4 (routeC T a (lastB T a k))]) ?_ (n + 1) _ _ ?_
  · rintro m e H' ⟨k, hk, i0, i2, i4, i6, i8, i9, i10, rfl⟩
    cases m with
    | zero =>
      have hk' : k = n + 1 := by omega
      subst hk'
      have d : decide (((n + 1 : Nat) : Int) ≤ (n : Int)) = false := by rw [decide_eq_false_iff_not]; omega
      simp only [f44b0, go_sem, Nat.reduceAdd, Nat.reduceMul, Nat.reduceSub, Nat.reduceBEq, Nat.reduceEqDiff, Nat.reduceLeDiff, Nat.reduceLT, Nat.reduceBneDiff, Int.reduceAdd, Int.cast_ofNat_Int, Int.toNat_natCast, Int.reduceLE, Int.reduceLT, Int.reduceToNat, Int.reduceEq, ↓reduceIte, i0, i2, i6, i8, i9, i10, d, routeC_len, routeC_3, routeC_take, zero4_put, routeC_flats]
      exact ⟨by simp, rfl⟩
    | succ m =>
      have d : decide ((k : Int) ≤ (n : Int)) = true := by rw [decide_eq_true_eq]; omega
      by_cases e0 : N (pth a k) = 0
      · have d2 : decide ((0 : Int) < ((N (pth a k) : Nat) : Int)) = false := by rw [decide_eq_false_iff_not]; omega
        have lb : lastB T a (n + 1) = lastB T a k := lastB_stop T a k (n + 1) (fun j hj => h.rep.off _ (down_pth h.rep a k j hj e0)) (by omega)
        simp only [f44b0, go_sem, Nat.reduceAdd, Nat.reduceMul, Nat.reduceSub, Nat.reduceBEq, Nat.reduceEqDiff, Nat.reduceLeDiff, Nat.reduceLT, Nat.reduceBneDiff, Int.reduceAdd, Int.cast_ofNat_Int, Int.toNat_natCast, Int.reduceLE, Int.reduceLT, Int.reduceToNat, Int.reduceEq, ↓reduceIte, i0, i2, i6, i8, i9, i10, d, d2, routeC_len, routeC_3, routeC_take, zero4_put, routeC_flats]
        exact ⟨by simp, by rw [lb]; rfl⟩
      · have d2 : decide ((0 : Int) < ((N (pth a k) : Nat) : Int)) = true := by rw [decide_eq_true_eq]; omega
        have a1 : IntKind.wrap .i64 ((k : Int) + 1) = ((k + 1 : Nat) : Int) := by rw [wrap_i64] <;> omega
        have hlt := h.rep.lt (pth a k)
        have a3 : (0 : Int) ≤ (N (pth a k) : Int) := by omega
        have a4 : (N (pth a k) : Int) < (nn : Int) := by omega
        have c0 := h.rep.child0 (pth a k)
        have c1 := h.rep.child1 (pth a k)
        have c2 := h.rep.act (pth a k)
        have pe := pth_succ a k
        have hTk := hT (pth a k)
        have nk : near (k : Int) = k := near_nat k (by omega)
        by_cases ht : T (pth a k) = 0
        · have d3 : decide ((0 : Int) < T (pth a k)) = false := by rw [decide_eq_false_iff_not]; omega
          have lb : lastB T a (k + 1) = lastB T a k := by rw [lastB, if_neg (fun g => g ht)]
          cases hb : bitA a k
          · rw [hb] at pe
            simp only [f44b0, go_sem, Nat.reduceAdd, Nat.reduceMul, Nat.reduceSub, Nat.reduceBEq, Nat.reduceEqDiff, Nat.reduceLeDiff, Nat.reduceLT, Nat.reduceBneDiff, Int.reduceAdd, Int.cast_ofNat_Int, Int.toNat_natCast, Int.reduceLE, Int.reduceLT, Int.reduceToNat, Int.reduceEq, ↓reduceIte, i0, i2, i4, i6, i8, i9, i10, d, d2, d3, a1, htop, hnod, ev_side, a3, a4, hb, Bool.false_eq_true, c0, c2]
            exact ⟨m, by omega, k + 1, by omega, by rw [pe], rfl, by rw [lb]⟩
          · rw [hb] at pe
            simp only [f44b0, go_sem, Nat.reduceAdd, Nat.reduceMul, Nat.reduceSub, Nat.reduceBEq, Nat.reduceEqDiff, Nat.reduceLeDiff, Nat.reduceLT, Nat.reduceBneDiff, Int.reduceAdd, Int.cast_ofNat_Int, Int.toNat_natCast, Int.reduceLE, Int.reduceLT, Int.reduceToNat, Int.reduceEq, ↓reduceIte, i0, i2, i4, i6, i8, i9, i10, d, d2, d3, a1, htop, hnod, ev_side, a3, a4, hb, c1, c2]
            exact ⟨m, by omega, k + 1, by omega, by rw [pe], rfl, by rw [lb]⟩
        · have d3 : decide ((0 : Int) < T (pth a k)) = true := by rw [decide_eq_true_eq]; omega
          have lb : lastB T a (k + 1) = some k := by rw [lastB, if_pos ht]
          cases hb : bitA a k
          · rw [hb] at pe
            simp only [f44b0, go_sem, Nat.reduceAdd, Nat.reduceMul, Nat.reduceSub, Nat.reduceBEq, Nat.reduceEqDiff, Nat.reduceLeDiff, Nat.reduceLT, Nat.reduceBneDiff, Int.reduceAdd, Int.cast_ofNat_Int, Int.toNat_natCast, Int.reduceLE, Int.reduceLT, Int.reduceToNat, Int.reduceEq, ↓reduceIte, i0, i2, i4, i6, i8, i9, i10, d, d2, d3, a1, htop, hnod, ev_side, ev_Make, nk, a3, a4, hb, Bool.false_eq_true, c0, c2, routeC_len, routeC_put]
            exact ⟨m, by omega, k + 1, by omega, by rw [pe], rfl, by rw [lb]; rfl⟩
          · rw [hb] at pe
            simp only [f44b0, go_sem, Nat.reduceAdd, Nat.reduceMul, Nat.reduceSub, Nat.reduceBEq, Nat.reduceEqDiff, Nat.reduceLeDiff, Nat.reduceLT, Nat.reduceBneDiff, Int.reduceAdd, Int.cast_ofNat_Int, Int.toNat_natCast, Int.reduceLE, Int.reduceLT, Int.reduceToNat, Int.reduceEq, ↓reduceIte, i0, i2, i4, i6, i8, i9, i10, d, d2, d3, a1, htop, hnod, ev_side, ev_Make, nk, a3, a4, hb, c1, c2, routeC_len, routeC_put]
            exact ⟨m, by omega, k + 1, by omega, by rw [pe], rfl, by rw [lb]; rfl⟩
  · exact ⟨0, by omega, by simp only [go_sem, Nat.reduceAdd, Nat.reduceMul, Nat.reduceSub, Nat.reduceBEq, Nat.reduceEqDiff, Nat.reduceLeDiff, Nat.reduceLT, Nat.reduceBneDiff, Int.reduceAdd, Int.cast_ofNat_Int, Int.toNat_natCast, Int.reduceLE, Int.reduceLT, Int.reduceToNat, Int.reduceEq, ↓reduceIte], by simp only [go_sem, Nat.reduceAdd, Nat.reduceMul, Nat.reduceSub, Nat.reduceBEq, Nat.reduceEqDiff, Nat.reduceLeDiff, Nat.reduceLT, Nat.reduceBneDiff, Int.reduceAdd, Int.cast_ofNat_Int, Int.toNat_natCast, Int.reduceLE, Int.reduceLT, Int.reduceToNat, Int.reduceEq, ↓reduceIte], by simp only [go_sem, Nat.reduceAdd, Nat.reduceMul, Nat.reduceSub, Nat.reduceBEq, Nat.reduceEqDiff, Nat.reduceLeDiff, Nat.reduceLT, Nat.reduceBneDiff, Int.reduceAdd, Int.cast_ofNat_Int, Int.toNat_natCast, Int.reduceLE, Int.reduceLT, Int.reduceToNat, Int.reduceEq, ↓reduceIte], by simp only [go_sem, Nat.reduceAdd, Nat.reduceMul, Nat.reduceSub, Nat.reduceBEq, Nat.reduceEqDiff, Nat.reduceLeDiff, Nat.reduceLT, Nat.reduceBneDiff, Int.reduceAdd, Int.cast_ofNat_Int, Int.toNat_natCast, Int.reduceLE, Int.reduceLT, Int.reduceToNat, Int.reduceEq, ↓reduceIte], by simp only [go_sem, Nat.reduceAdd, Nat.reduceMul, Nat.reduceSub, Nat.reduceBEq, Nat.reduceEqDiff, Nat.reduceLeDiff, Nat.reduceLT, Nat.reduceBneDiff, Int.reduceAdd, Int.cast_ofNat_Int, Int.toNat_natCast, Int.reduceLE, Int.reduceLT, Int.reduceToNat, Int.reduceEq, ↓reduceIte], by rw [pth_zero, h.rep.root]; simp only [go_sem, Nat.reduceAdd, Nat.reduceMul, Nat.reduceSub, Nat.reduceBEq, Nat.reduceEqDiff, Nat.reduceLeDiff, Nat.reduceLT, Nat.reduceBneDiff, Int.reduceAdd, Int.cast_ofNat_Int, Int.toNat_natCast, Int.reduceLE, Int.reduceLT, Int.reduceToNat, Int.reduceEq, ↓reduceIte], by simp only [go_sem, Nat.reduceAdd, Nat.reduceMul, Nat.reduceSub, Nat.reduceBEq, Nat.reduceEqDiff, Nat.reduceLeDiff, Nat.reduceLT, Nat.reduceBneDiff, Int.reduceAdd, Int.cast_ofNat_Int, Int.toNat_natCast, Int.reduceLE, Int.reduceLT, Int.reduceToNat, Int.reduceEq, ↓reduceIte], rfl⟩
theorem ev_Best (h : Sees H tid w many lid lv lm fv lc nn fr N T) (hT : ∀ q, 0 ≤ T q) (a : Adr) (n : Nat) (hn : n ≤ 128) (hw : w = (n : Int)) : ev (PX hook) lim 16 [.ptr tid 0 0, .agg [u64 (hi a), u64 (lo a)]] H = some (lastV T a (lastB T a (n + 1)), H) := by
  refine ev_own _ (PF t16) rfl (by decide) ?_
  subst hw
  have hl := fun L => ev_last (hook := hook) (lim := H.length) (h.more L) hT a n hn
  simp only [f16, go_sem, Nat.reduceAdd, Nat.reduceMul, Nat.reduceSub, Nat.reduceBEq, Nat.reduceEqDiff, Nat.reduceLeDiff, Nat.reduceLT, Nat.reduceBneDiff, Int.reduceAdd, Int.cast_ofNat_Int, Int.toNat_natCast, Int.reduceLE, Int.reduceLT, Int.reduceToNat, Int.reduceEq, ↓reduceIte, h.top', hl, lastV, routeC_len, routeC_take, zero4_put, routeC_flats]
theorem ev_Cover (h : Sees H tid w many lid lv lm fv lc nn fr N T) (hT : ∀ q, 0 ≤ T q) (a : Adr) (n : Int) : ev (PX hook) lim 17 [.ptr tid 0 0, .agg [u64 (hi a), u64 (lo a), .int .i64 n]] H = some (lastV T a (if rightP w a n then lastB T a n.toNat else none), H) := by
  refine ev_own _ (PF t17) rfl (by decide) ?_
  have htop := h.top'
  cases hr : rightP w a n
  · simp only [f17, go_sem, Nat.reduceAdd, Nat.reduceMul, Nat.reduceSub, Nat.reduceBEq, Nat.reduceEqDiff, Nat.reduceLeDiff, Nat.reduceLT, Nat.reduceBneDiff, Int.reduceAdd, Int.cast_ofNat_Int, Int.toNat_natCast, Int.reduceLE, Int.reduceLT, Int.reduceToNat, Int.reduceEq, ↓reduceIte, htop, ev_Right, hr]
    rfl
  · have hr' := (rightP_iff w a n).1 hr
    by_cases h0 : n = 0
    · subst h0
      have z : ((0 : Int) == 0) = true := rfl
      simp only [f17, go_sem, Nat.reduceAdd, Nat.reduceMul, Nat.reduceSub, Nat.reduceBEq, Nat.reduceEqDiff, Nat.reduceLeDiff, Nat.reduceLT, Nat.reduceBneDiff, Int.reduceAdd, Int.cast_ofNat_Int, Int.toNat_natCast, Int.reduceLE, Int.reduceLT, Int.reduceToNat, Int.reduceEq, ↓reduceIte, htop, ev_Right, hr, z]
      rfl
    · have z : (n == 0) = false := by simp [h0]
      obtain ⟨m, rfl⟩ : ∃ m : Nat, n = ((m + 1 : Nat) : Int) := ⟨n.toNat - 1, by omega⟩
      have e1 : IntKind.wrap .i64 (((m + 1 : Nat) : Int) - 1) = (m : Int) := by rw [wrap_i64] <;> omega
      have hl := fun L => ev_last (hook := hook) (lim := H.length) (h.more L) hT a m (by omega)
      simp only [f17, go_sem, Nat.reduceAdd, Nat.reduceMul, Nat.reduceSub, Nat.reduceBEq, Nat.reduceEqDiff, Nat.reduceLeDiff, Nat.reduceLT, Nat.reduceBneDiff, Int.reduceAdd, Int.cast_ofNat_Int, Int.toNat_natCast, Int.reduceLE, Int.reduceLT, Int.reduceToNat, Int.reduceEq, ↓reduceIte, htop, ev_Right, hr, z, e1, hl, lastV, routeC_len, routeC_take, zero4_put, routeC_flats]
end Go.Proofs.Ytdapdfaejemgdaa.C
