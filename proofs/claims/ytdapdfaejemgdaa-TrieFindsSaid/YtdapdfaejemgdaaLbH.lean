/- TrieFinds' function is true whatever comes in. Conditions: the slice shows the calls. -/
import Derived.Test.YtdapdfaejemgdaaLbG
import Derived.Test.YtdapdfaejemgdaaLbK
set_option linter.unusedVariables false
set_option linter.unusedSimpArgs false
namespace Go.AM
theorem rows5_cat (l : List Cl) : rows5 l = cat Cl.c l := by
  induction l with
  | nil => rfl
  | cons r l ih => rw [rows5, ih]; rfl
theorem rows_cat (l : List Rt) : rows l = cat Rt.c l := by
  induction l with
  | nil => rfl
  | cons r l ih => rw [rows, ih]; rfl
theorem read_rt (cs : List Value) (h : CellsOk [.i .u64, .i .u64, .i .i64, .i .i64] cs) : ∃ x : Rt, (x.c).all AV.one = true ∧ ∀ φ, VRels φ x.c cs := by
  obtain ⟨a, r, rfl, h1⟩ := cells_adr h
  obtain ⟨n, r, rfl, h2⟩ := cells_int h1
  obtain ⟨x, r, rfl, h3⟩ := cells_int h2
  have := h3.nil
  subst this
  exact ⟨⟨a, n, x⟩, rfl, fun φ => .mk (.mkU _) (.mk (.mkU _) (.mk (.mkInt _ _) (.mk (.mkInt _ _) .mk0)))⟩
theorem read_cl (cs : List Value) (h : CellsOk [.i .i64, .i .u64, .i .u64, .i .i64, .i .i64] cs) : ∃ x : Cl, (x.c).all AV.one = true ∧ ∀ φ, VRels φ x.c cs := by
  obtain ⟨k, r, rfl, h0⟩ := cells_int h
  obtain ⟨x, h1, h2⟩ := read_rt r h0
  exact ⟨⟨k, x⟩, h1, fun φ => .mk (.mkInt _ _) (h2 φ)⟩
theorem Shows.ofCl {H : Heap} {l : List Cl} {v : AV} (h : (l.length = 0 ∧ v = .nils) ∨ ∃ id ver m, v = .sl id ver 0 l.length m ∧ H.cells id ver = some (cat Cl.c l)) : Shows H 5 v l.length (rows5 l) := by
  rw [← rows5_cat] at h
  exact ⟨rows5_length l, h⟩
theorem Shows.ofRt {H : Heap} {l : List Rt} {v : AV} (h : (l.length = 0 ∧ v = .nils) ∨ ∃ id ver m, v = .sl id ver 0 l.length m ∧ H.cells id ver = some (cat Rt.c l)) : Shows H 4 v l.length (rows l) := by
  rw [← rows_cat] at h
  exact ⟨rows_length l, h⟩
theorem bestR_cells (T : List Bool → Int) (a : Adr) (o : Option Nat) : bestR T a o = match o with | some k => some ⟨cutA a k, k, T (pth a k)⟩ | none => none := by cases o <;> rfl
end Go.AM
namespace Go.Proofs.Ytdapdfaejemgdaa.C
open Go.AM
variable {hook : Nat → Nat → List AV → Heap → Option (AV × Heap)} {lim : Nat} {H : Heap}
theorem ev_fam (w : Int) : ev (PX hook) lim 14 [.int .i64 w] H = some (.bool (family w), H) := by
  refine ev_own _ (PF t14) rfl (by decide) ?_
  unfold family
  cases h1 : (w == 32) <;> simp only [f14, go_sem, Nat.reduceAdd, Nat.reduceMul, Nat.reduceSub, Nat.reduceBEq, Nat.reduceEqDiff, Nat.reduceLeDiff, Nat.reduceLT, Nat.reduceBneDiff, Int.reduceAdd, Int.cast_ofNat_Int, Int.toNat_natCast, Int.reduceLE, Int.reduceLT, Int.reduceToNat, Int.reduceEq, ↓reduceIte, h1, Bool.false_or, Bool.true_or]
/-- What the trie tells is what the table tells. -/
theorem best_same {w : Int} {n : Nat} (hw : w = (n : Int)) (hn : n ≤ 128) {tb : List Rt} (hl : Okay w tb) (a : Adr) : bestFrom tb a 128 = bestR (tOf tb) a (lastB (tOf tb) a (n + 1)) := by
  have h1 := bestFrom_eq hl a 128 (Nat.le_refl _) (lastB (tOf tb) a) rfl (fun k => rfl)
  rw [h1, lastB_stop (tOf tb) a (n + 1) (128 + 1) (fun j hj => ?_) (by omega)]
  rw [tOf_none hl]
  intro r hr e
  have hp := rightP_parts (rightR_P (hl r hr)).1
  have := congrArg List.length e
  unfold Rt.way at this
  rw [pth_length, pth_length] at this
  omega
theorem tOf_short {w : Int} {l : List Rt} (hl : Okay w l) (n : Nat) (q : List Bool) : tOf (rShort (n : Int) l) q = if q.length < n then tOf l q else 0 := by
  induction l with
  | nil => simp [rShort, tOf]
  | cons r l ih =>
    have hp := rightP_parts (rightR_P (hl r (by simp))).1
    have ih' := ih (fun s hs => hl s (by simp [hs]))
    have hwl : r.way.length = r.n.toNat := by unfold Rt.way; rw [pth_length]
    unfold rShort at ih' ⊢
    rw [List.filter_cons]
    by_cases h : r.n < (n : Int)
    · simp only [h, decide_true, if_true, tOf]
      rw [ih']
      by_cases e : q = r.way
      · subst e; rw [if_pos rfl, if_pos rfl, if_pos (by omega)]
      · rw [if_neg e, if_neg e]
    · simp only [h, decide_false, Bool.false_eq_true, if_false, tOf]
      rw [ih']
      by_cases e : q = r.way
      · subst e; rw [if_neg (by omega), if_neg (by omega)]
      · rw [if_neg e]
theorem lastB_congr {T T' : List Bool → Int} {a : Adr} {n : Nat} (h : ∀ j, j < n → T (pth a j) = T' (pth a j)) : lastB T a n = lastB T' a n := by
  induction n with
  | zero => rfl
  | succ n ih => rw [lastB, lastB, h n (by omega), ih (fun j hj => h j (by omega))]
theorem lastB_lt {T : List Bool → Int} {a : Adr} {n k : Nat} (h : lastB T a n = some k) : k < n ∧ T (pth a k) ≠ 0 := by
  induction n with
  | zero => cases h
  | succ n ih =>
    rw [lastB] at h
    split at h
    · rename_i g; cases h; exact ⟨by omega, g⟩
    · have := ih h; exact ⟨by omega, this.2⟩
theorem cover_same {w : Int} {tb : List Rt} (hl : Okay w tb) (a : Adr) (n : Nat) (hn : n ≤ 128) : bestFrom (rShort (n : Int) tb) a 128 = bestR (tOf tb) a (lastB (tOf tb) a n) := by
  have hs : Okay w (rShort (n : Int) tb) := fun r hr => hl r (List.mem_filter.1 hr).1
  have ht := tOf_short hl n
  have h1 := bestFrom_eq hs a 128 (Nat.le_refl _) (lastB (tOf (rShort (n : Int) tb)) a) rfl (fun k => rfl)
  have h2 : lastB (tOf (rShort (n : Int) tb)) a (128 + 1) = lastB (tOf tb) a n := by
    rw [lastB_stop (tOf (rShort (n : Int) tb)) a n (128 + 1) (fun j hj => by rw [ht, pth_length, if_neg (by omega)]) (by omega)]
    exact lastB_congr fun j hj => by rw [ht, pth_length, if_pos hj]
  rw [h1, h2]
  cases hb : lastB (tOf tb) a n with
  | none => rfl
  | some k =>
    have hk := (lastB_lt hb).1
    simp only [bestR]
    rw [ht, pth_length, if_pos hk]
/-- A route, or none. -/
def noR : Rt := ⟨0#128, 0, 0⟩
theorem rtV_eq (o : Option Rt) : rtV o = .tup [.agg [u64 (hi (o.getD noR).a), u64 (lo (o.getD noR).a), .int .i64 (o.getD noR).n, .int .i64 (o.getD noR).x], .bool o.isSome] := by cases o <;> rfl
theorem lastV_eq {T : List Bool → Int} (hT : ∀ q, 0 ≤ T q) (a : Adr) (n : Nat) : lastV T a (lastB T a n) = rtV (bestR T a (lastB T a n)) := by
  cases hb : lastB T a n with
  | none => rfl
  | some k =>
    have hk := (lastB_lt hb).2
    have := hT (pth a k)
    have d : 0 < T (pth a k) := by omega
    simp only [lastV, actOf, routeC, bestR, rtV, d, decide_true]
    rfl
theorem getV_eq {w w' : Int} {tb : List Rt} (hl : Okay w' tb) (a : Adr) (n : Int) (hr : rightP w a n = true) : getV w (tOf tb) a n = rtV (rFind a n tb) := by
  rw [rFind_spec hl hr]
  unfold getV
  by_cases h : tOf tb (pth a n.toNat) = 0 <;> simp [h, hr, rtV, Rt.c]
theorem getV_bad {w : Int} {T : List Bool → Int} (a : Adr) (n : Int) (hr : rightP w a n = false) : getV w T a n = rtV none := by
  unfold getV; rw [if_neg (by simp [hr])]; rfl
theorem finds_true (w : Int) (v : AV) (ops : List Cl) (a : Adr) (n : Int) (b : Adr) (hv : Shows H 5 v ops.length (rows5 ops)) : ev (PX hook) lim 4 [.int .i64 w, v, .agg [u64 (hi a), u64 (lo a), .int .i64 n], .agg [u64 (hi b), u64 (lo b)]] H = some (.bool true, H) := by
  refine ev_own _ (PF t4) rfl (by decide) ?_
  have hlen := hv.len
  by_cases hn : ops.length ≤ 14
  · have d : decide ((14 : Int) < (ops.length : Int)) = false := by rw [decide_eq_false_iff_not]; omega
    cases hw : family w
    · simp only [f4, go_sem, Nat.reduceAdd, Nat.reduceMul, Nat.reduceSub, Nat.reduceBEq, Nat.reduceEqDiff, Nat.reduceLeDiff, Nat.reduceLT, Nat.reduceBneDiff, Int.reduceAdd, Int.cast_ofNat_Int, Int.toNat_natCast, Int.reduceLE, Int.reduceLT, Int.reduceToNat, Int.reduceEq, ↓reduceIte, hlen, d, ev_fam, hw, ev_awake]
    · obtain ⟨w', hw1, hw2⟩ := fams w hw
      have hv2 := hv.more [Blk.rw 0 3 [u64 (hi a), u64 (lo a), .int .i64 n], .rw 0 2 [u64 (hi b), u64 (lo b)]]
      obtain ⟨H', tid, tv, N, O, hrun, R, hle⟩ := ev_run (hook := hook) (lim := H.length) w hw v ops (by simp) hv2 hn
      have hB : H.length ≤ (H ++ [Blk.rw 0 3 [u64 (hi a), u64 (lo a), .int .i64 n], .rw 0 2 [u64 (hi b), u64 (lo b)]]).length := by simp
      have bx1 : H'[H.length]? = some (.rw 0 3 [u64 (hi a), u64 (lo a), .int .i64 n]) := R.kept.at (by simp) (by simp)
      have bx2 : H'[H.length + 1]? = some (.rw 0 2 [u64 (hi b), u64 (lo b)]) := R.kept.at (by rw [List.getElem?_append_right (Nat.le_add_right _ _), Nat.add_sub_cancel_left]; rfl) (by simp)
      have cx1 := fun L => Heap.cells_of (Heap.app_of bx1 L)
      have cx2 := fun L => Heap.cells_of (Heap.app_of bx2 L)
      have cy1 := Heap.cells_of bx1
      have cy2 := Heap.cells_of bx2
      have hget := fun L => St_Get (hook := hook) (lim := H.length) (R.holds.st.more L) a n
      have hbest := fun L => St_Best (hook := hook) (lim := H.length) (R.holds.st.more L) b w' hw2 hw1
      have hcov := fun L => St_Cover (hook := hook) (lim := H.length) (R.holds.st.more L) a n
      have hpos := R.holds.st.pos
      have hlt := R.holds.st.lt
      have hll : H.length ≤ H'.length := by have := R.kept.1; simp at this; omega
      have hget0 := St_Get (hook := hook) (lim := H.length) R.holds.st a n
      have hsh := fun L => R.shows.more L
      have hrb := fun L => ev_rBest (hook := hook) (lim := H.length) tv (doAll w [] ops) b (hsh L) (by omega)
      have hrf := fun L => ev_rFind (hook := hook) (lim := H.length) tv (doAll w [] ops) a n (hsh L) (by omega)
      have hrc := fun L => ev_rCover (hook := hook) (lim := H.length) tv (doAll w [] ops) a n (hsh L) (by omega)
      have hbs := best_same hw1 hw2 R.holds.ok b
      have tk := fun L => ((Kept.app [] H _).trans R.kept (P := []) (fun _ _ g => g) (fun _ _ g => g)).take (by simp) L
      simp only [lastV_eq hpos, ← hbs, rtV_eq] at hbest
      simp only [rtV_eq] at hrb hrf hrc
      have zb : (hi (none.getD noR).a == 0#64 && (lo (none.getD noR).a == 0#64 && ((none.getD noR).n == 0 && (none.getD noR).x == 0))) = true := by decide
      cases hr : rightP w a n
      · rw [getV_bad a n hr, rtV_eq] at hget0
        simp only [hr, Bool.false_eq_true, if_false] at hcov
        have hc0 : lastV (tOf (doAll w [] ops)) a none = rtV none := rfl
        simp only [hc0, rtV_eq] at hcov
        simp only [f4, go_sem, Nat.reduceAdd, Nat.reduceMul, Nat.reduceSub, Nat.reduceBEq, Nat.reduceEqDiff, Nat.reduceLeDiff, Nat.reduceLT, Nat.reduceBneDiff, Int.reduceAdd, Int.cast_ofNat_Int, Int.toNat_natCast, Int.reduceLE, Int.reduceLT, Int.reduceToNat, Int.reduceEq, ↓reduceIte, hlen, d, ev_fam, hw, hrun, cy1, cy2, cx1, cx2, hget0, hbest, hcov, hrb, hll, ev_OneR, ev_OfP, ev_rRight, hr, beq_self_eq_true, zb, tk, ev_awake]
      · rw [getV_eq R.holds.ok a n hr, rtV_eq] at hget0
        have hp := rightP_parts hr
        have hnn : ((n.toNat : Nat) : Int) = n := by omega
        have hcs := cover_same R.holds.ok a n.toNat (by omega)
        rw [hnn] at hcs
        simp only [hr, if_true, lastV_eq hpos, ← hcs, rtV_eq] at hcov
        simp only [f4, go_sem, Nat.reduceAdd, Nat.reduceMul, Nat.reduceSub, Nat.reduceBEq, Nat.reduceEqDiff, Nat.reduceLeDiff, Nat.reduceLT, Nat.reduceBneDiff, Int.reduceAdd, Int.cast_ofNat_Int, Int.toNat_natCast, Int.reduceLE, Int.reduceLT, Int.reduceToNat, Int.reduceEq, ↓reduceIte, hlen, d, ev_fam, hw, hrun, cy1, cy2, cx1, cx2, hget0, hbest, hcov, hrb, hrf, hrc, hll, ev_OneR, ev_OfP, ev_rRight, hr, beq_self_eq_true, tk, ev_awake]
  · have d : decide ((14 : Int) < (ops.length : Int)) = true := by rw [decide_eq_true_eq]; omega
    simp only [f4, go_sem, Nat.reduceAdd, Nat.reduceMul, Nat.reduceSub, Nat.reduceBEq, Nat.reduceEqDiff, Nat.reduceLeDiff, Nat.reduceLT, Nat.reduceBneDiff, Int.reduceAdd, Int.cast_ofNat_Int, Int.toNat_natCast, Int.reduceLE, Int.reduceLT, Int.reduceToNat, Int.reduceEq, ↓reduceIte, hlen, d, ev_awake]
end Go.Proofs.Ytdapdfaejemgdaa.C
