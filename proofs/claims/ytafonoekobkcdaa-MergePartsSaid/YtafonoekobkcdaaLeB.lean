/- ROWS MERGED: the first two that merge: the program's. Conditions: the slice shows the entries. -/
import Derived.Test.YtafonoekobkcdaaLeA
set_option linter.unusedVariables false
set_option linter.unusedSimpArgs false
namespace Go.AM
/-- The first one from k on, of those as long, that an entry merges with. (Behind so many steps.) -/
def two1 (l : List En) (x : En) : Nat → Nat → Option (Nat × Wd)
  | 0, _ => none
  | f + 1, k => match l[k]? with
    | none => none
    | some y => if y.n = x.n then (if y.x = x.x then (match x.w.merge y.w with | some w => some (k, w) | none => two1 l x f (k + 1)) else two1 l x f (k + 1)) else none
def twoN (l : List En) : Nat → Nat → Option (Nat × Nat × Wd)
  | 0, _ => none
  | f + 1, i => match l[i]? with
    | none => none
    | some x => match two1 l x (l.length - (i + 1)) (i + 1) with
      | some (k, w) => some (i, k, w)
      | none => twoN l f (i + 1)
def twoW (l : List En) : Option (Nat × Nat × Wd) := twoN l l.length 0
theorem set_comm_true (e : Env) (a b : Nat) (v u : AV) (h : (a == b) = false) : ((e.set a v).set b u = (e.set b u).set a v) = True := by
  rw [eq_iff_iff]
  refine ⟨fun _ => trivial, fun _ => ?_⟩
  have hab : a ≠ b := by simpa using h
  funext j
  simp only [Env.set]
  by_cases h1 : j = a
  · subst h1; simp [hab]
  · simp [h1]
def twoV : Option (Nat × Nat × Wd) → AV
  | some (i, k, w) => .tup [.int .i64 (i : Int), .int .i64 (k : Int), .agg w.c, .bool true]
  | none => .tup [.int .i64 0, .int .i64 0, .agg Wd.z.c, .bool false]
theorem get_end (B G : Heap) (b : Blk) : (B ++ (G ++ [b]))[B.length + G.length]? = some b := by
  rw [← List.append_assoc, List.getElem?_append_right (by simp)]; simp
theorem write_end (B G : Heap) (a b c d : AV) (w : Wd) (lim : Nat) : Heap.write (B ++ (G ++ [Blk.rw 0 4 [a, b, c, d]])) lim (B.length + G.length) 0 0 w.c = some (B ++ (G ++ [Blk.rw 0 4 w.c])) := by
  unfold Heap.write
  rw [get_end]
  simp only
  rw [if_pos ⟨trivial, by simp [Wd.c], fun _ => rfl⟩]
  rw [← List.append_assoc, List.set_append_right _ _ (by simp)]
  simp [putCells, Wd.c]
theorem load_end (B G : Heap) (w : Wd) : loadV (B ++ (G ++ [Blk.rw 0 4 w.c])) true 4 (.ptr (B.length + G.length) 0 0) = some (.agg w.c) := by
  simp [loadV, Heap.cells, get_end, Blk.ver, Blk.cells, rdCells, Wd.c]
theorem resOf_4 (e : Env) (H : Heap) (r s t u : ARes) : resOf e H [r, s, t, u] = (resV e H r).bind fun a => (resV e H s).bind fun b => (resV e H t).bind fun c => (resV e H u).bind fun d => some (.tup [a, b, c, d]) := by
  simp only [resOf, resVs]; cases resV e H r <;> cases resV e H s <;> cases resV e H t <;> cases resV e H u <;> rfl
theorem extractV_3 (a b c d : AV) (l : List AV) : extractV (.tup (a :: b :: c :: d :: l)) 3 = some d := rfl
theorem Wd.fl (w : Wd) : AV.flats w.c = true := rfl
attribute [go_sem] resOf_4 extractV_3 Wd.fl
theorem cells_at (P L : Heap) (b : Blk) (n : Nat) (h : n = P.length) : Heap.cells (P ++ (b :: L)) n b.ver = some b.cells := by subst h; simp [Heap.cells]
theorem Wd.put (w : Wd) (a b d f : AV) : putCells [a, b, d, f] 0 w.c = w.c := rfl
end Go.AM
namespace Go.Proofs.Ytafonoekobkcdaa.C
open Go.AM
variable {hook : Nat → Nat → List AV → Heap → Option (AV × Heap)} {lim : Nat} {H : Heap}
theorem two_in (v : AV) (l : List En) (x : En) (B : Heap) (Bw : Wd → Heap) (xid zid i : Nat) (hv : Lst En.c 6 B v l) (hl : l.length < 1000000) (hi : i < l.length)
    (hb : ∀ L, Heap.cells (B ++ L) xid 0 = some x.c) (hwr : ∀ L (w : Wd), Heap.write (B ++ L) lim zid 0 0 w.c = some (Bw w ++ L)) {K : List Frm} {Q : Post} {e : Env}
    (e0 : e 0 = v) (e4 : e 4 = .ptr zid 0 0) (e6 : e 6 = .int .i64 (i : Int)) (e7 : e 7 = .ptr xid 0 0) (e8 : e 8 = .int .i64 ((i + 1 : Nat) : Int))
    (gN : two1 l x (l.length - (i + 1)) (i + 1) = none → ∀ (e' : Env) (G : Heap), e' 0 = v → e' 2 = e 2 → e' 3 = e 3 → e' 4 = .ptr zid 0 0 → e' 5 = e 5 → e' 11 = e 11 → e' 12 = e 12 → e' 13 = e 13 → ON (PX hook) lim K (.exit 2) e' (B ++ G) Q)
    (gS : ∀ k w, two1 l x (l.length - (i + 1)) (i + 1) = some (k, w) → ∀ (e' : Env) (G : Heap), e' 2 = .int .i64 (i : Int) → e' 3 = .int .i64 (k : Int) → e' 4 = .ptr zid 0 0 → e' 5 = .bool true → ON (PX hook) lim K .ret e' (Bw w ++ G) Q) :
    GO (PX hook) lim (.loop f25b0) K e B Q := by
  have hlen := hv.len
  have hlen' := hv.len'
  have hx1 : ∀ L, loadV (B ++ L) false 1 (.ptr xid 0 4) = some (.int .i64 x.n) := fun L => by simp only [go_sem, Nat.reduceAdd, Nat.reduceMul, Nat.reduceSub, Nat.reduceBEq, Nat.reduceEqDiff, Nat.reduceLeDiff, Nat.reduceLT, Nat.reduceBneDiff, Int.reduceAdd, Int.cast_ofNat_Int, Int.toNat_natCast, Int.reduceLE, Int.reduceLT, Int.reduceToNat, Int.reduceEq, ↓reduceIte, hb, En.get4]
  have hx2 : ∀ L, loadV (B ++ L) false 1 (.ptr xid 0 5) = some (.int .i64 x.x) := fun L => by simp only [go_sem, Nat.reduceAdd, Nat.reduceMul, Nat.reduceSub, Nat.reduceBEq, Nat.reduceEqDiff, Nat.reduceLeDiff, Nat.reduceLT, Nat.reduceBneDiff, Int.reduceAdd, Int.cast_ofNat_Int, Int.toNat_natCast, Int.reduceLE, Int.reduceLT, Int.reduceToNat, Int.reduceEq, ↓reduceIte, hb, En.get5]
  have hx3 : ∀ L, loadV (B ++ L) true 4 (.ptr xid 0 0) = some (.agg x.w.c) := fun L => by simp only [go_sem, Nat.reduceAdd, Nat.reduceMul, Nat.reduceSub, Nat.reduceBEq, Nat.reduceEqDiff, Nat.reduceLeDiff, Nat.reduceLT, Nat.reduceBneDiff, Int.reduceAdd, Int.cast_ofNat_Int, Int.toNat_natCast, Int.reduceLE, Int.reduceLT, Int.reduceToNat, Int.reduceEq, ↓reduceIte, hb, En.len, En.wrd]
  refine GO_loop _ (fun m e' H' => ∃ (k : Nat) (G : Heap), k + m = l.length ∧ two1 l x (l.length - (i + 1)) (i + 1) = two1 l x (l.length - k) k ∧ e' 0 = v ∧ e' 2 = e 2 ∧ e' 3 = e 3 ∧ e' 4 = .ptr zid 0 0 ∧ e' 5 = e 5 ∧ e' 6 = .int .i64 (i : Int) ∧ e' 7 = .ptr xid 0 0 ∧ e' 8 = .int .i64 (k : Int) ∧ e' 11 = e 11 ∧ e' 12 = e 12 ∧ e' 13 = e 13 ∧ H' = B ++ G) ?_ (l.length - (i + 1)) _ _ ?_
  · rintro m e' H' ⟨k, G, hk, ht, j0, j2, j3, j4, j5, j6, j7, j8, j11, j12, j13, rfl⟩
    cases m with
    | zero =>
      have hk' : k = l.length := by omega
      subst hk'
      rw [Nat.sub_self, two1] at ht
      simp only [f25b0, go_sem, Nat.reduceAdd, Nat.reduceMul, Nat.reduceSub, Nat.reduceBEq, Nat.reduceEqDiff, Nat.reduceLeDiff, Nat.reduceLT, Nat.reduceBneDiff, Int.reduceAdd, Int.cast_ofNat_Int, Int.toNat_natCast, Int.reduceLE, Int.reduceLT, Int.reduceToNat, Int.reduceEq, ↓reduceIte, j0, j2, j3, j4, j5, j6, j7, j8, hlen, lt_false]
      exact gN ht _ G (by simp only [go_sem, Nat.reduceAdd, Nat.reduceMul, Nat.reduceSub, Nat.reduceBEq, Nat.reduceEqDiff, Nat.reduceLeDiff, Nat.reduceLT, Nat.reduceBneDiff, Int.reduceAdd, Int.cast_ofNat_Int, Int.toNat_natCast, Int.reduceLE, Int.reduceLT, Int.reduceToNat, Int.reduceEq, ↓reduceIte, j0]) (by simp only [go_sem, Nat.reduceAdd, Nat.reduceMul, Nat.reduceSub, Nat.reduceBEq, Nat.reduceEqDiff, Nat.reduceLeDiff, Nat.reduceLT, Nat.reduceBneDiff, Int.reduceAdd, Int.cast_ofNat_Int, Int.toNat_natCast, Int.reduceLE, Int.reduceLT, Int.reduceToNat, Int.reduceEq, ↓reduceIte, j2]) (by simp only [go_sem, Nat.reduceAdd, Nat.reduceMul, Nat.reduceSub, Nat.reduceBEq, Nat.reduceEqDiff, Nat.reduceLeDiff, Nat.reduceLT, Nat.reduceBneDiff, Int.reduceAdd, Int.cast_ofNat_Int, Int.toNat_natCast, Int.reduceLE, Int.reduceLT, Int.reduceToNat, Int.reduceEq, ↓reduceIte, j3]) (by simp only [go_sem, Nat.reduceAdd, Nat.reduceMul, Nat.reduceSub, Nat.reduceBEq, Nat.reduceEqDiff, Nat.reduceLeDiff, Nat.reduceLT, Nat.reduceBneDiff, Int.reduceAdd, Int.cast_ofNat_Int, Int.toNat_natCast, Int.reduceLE, Int.reduceLT, Int.reduceToNat, Int.reduceEq, ↓reduceIte, j4]) (by simp only [go_sem, Nat.reduceAdd, Nat.reduceMul, Nat.reduceSub, Nat.reduceBEq, Nat.reduceEqDiff, Nat.reduceLeDiff, Nat.reduceLT, Nat.reduceBneDiff, Int.reduceAdd, Int.cast_ofNat_Int, Int.toNat_natCast, Int.reduceLE, Int.reduceLT, Int.reduceToNat, Int.reduceEq, ↓reduceIte, j5]) (by simp only [go_sem, Nat.reduceAdd, Nat.reduceMul, Nat.reduceSub, Nat.reduceBEq, Nat.reduceEqDiff, Nat.reduceLeDiff, Nat.reduceLT, Nat.reduceBneDiff, Int.reduceAdd, Int.cast_ofNat_Int, Int.toNat_natCast, Int.reduceLE, Int.reduceLT, Int.reduceToNat, Int.reduceEq, ↓reduceIte, j11]) (by simp only [go_sem, Nat.reduceAdd, Nat.reduceMul, Nat.reduceSub, Nat.reduceBEq, Nat.reduceEqDiff, Nat.reduceLeDiff, Nat.reduceLT, Nat.reduceBneDiff, Int.reduceAdd, Int.cast_ofNat_Int, Int.toNat_natCast, Int.reduceLE, Int.reduceLT, Int.reduceToNat, Int.reduceEq, ↓reduceIte, j12]) (by simp only [go_sem, Nat.reduceAdd, Nat.reduceMul, Nat.reduceSub, Nat.reduceBEq, Nat.reduceEqDiff, Nat.reduceLeDiff, Nat.reduceLT, Nat.reduceBneDiff, Int.reduceAdd, Int.cast_ofNat_Int, Int.toNat_natCast, Int.reduceLE, Int.reduceLT, Int.reduceToNat, Int.reduceEq, ↓reduceIte, j13])
    | succ m =>
      obtain ⟨y, hy, _⟩ := get_of_lt (show k < l.length by omega)
      obtain ⟨id, ver, q, E⟩ := hv.at (by omega) En.len hy
      have d := lt_true (show k < l.length by omega)
      have a1 := wrap_succ (show k < 1000000 by omega)
      rw [show l.length - k = (l.length - (k + 1)) + 1 by omega, two1, hy] at ht
      simp only at ht
      by_cases hn : y.n = x.n
      · have d2 : (y.n == x.n) = true := by simp [hn]
        rw [if_pos hn] at ht
        by_cases hx : y.x = x.x
        · have d3 : (y.x != x.x) = false := by simp [hx]
          rw [if_pos hx] at ht
          have hm := fun lim H => ev_WMerge (hook := hook) (lim := lim) (H := H) x.w y.w
          cases hw : x.w.merge y.w with
          | some w =>
            rw [hw] at ht hm
            simp only [Option.getD_some, Option.isSome_some] at ht hm
            simp only [f25b0, go_sem, Nat.reduceAdd, Nat.reduceMul, Nat.reduceSub, Nat.reduceBEq, Nat.reduceEqDiff, Nat.reduceLeDiff, Nat.reduceLT, Nat.reduceBneDiff, Int.reduceAdd, Int.cast_ofNat_Int, Int.toNat_natCast, Int.reduceLE, Int.reduceLT, Int.reduceToNat, Int.reduceEq, ↓reduceIte, j0, j2, j3, j4, j5, j6, j7, j8, hlen, d, hb, hx1, hx2, hx3, E.adr, E.adr', E.cel, E.cel', E.all, E.all', E.part, E.part', E.part0, E.part0', E.one, E.one', E.one0, E.one0', d2, d3, hm, set_comm_true, write_end, load_end, Wd.len, Wd.put, Wd.all, hwr]
            exact gS k w ht _ _ (by simp only [go_sem, Nat.reduceAdd, Nat.reduceMul, Nat.reduceSub, Nat.reduceBEq, Nat.reduceEqDiff, Nat.reduceLeDiff, Nat.reduceLT, Nat.reduceBneDiff, Int.reduceAdd, Int.cast_ofNat_Int, Int.toNat_natCast, Int.reduceLE, Int.reduceLT, Int.reduceToNat, Int.reduceEq, ↓reduceIte, j6]) (by simp only [go_sem, Nat.reduceAdd, Nat.reduceMul, Nat.reduceSub, Nat.reduceBEq, Nat.reduceEqDiff, Nat.reduceLeDiff, Nat.reduceLT, Nat.reduceBneDiff, Int.reduceAdd, Int.cast_ofNat_Int, Int.toNat_natCast, Int.reduceLE, Int.reduceLT, Int.reduceToNat, Int.reduceEq, ↓reduceIte]) (by simp only [go_sem, Nat.reduceAdd, Nat.reduceMul, Nat.reduceSub, Nat.reduceBEq, Nat.reduceEqDiff, Nat.reduceLeDiff, Nat.reduceLT, Nat.reduceBneDiff, Int.reduceAdd, Int.cast_ofNat_Int, Int.toNat_natCast, Int.reduceLE, Int.reduceLT, Int.reduceToNat, Int.reduceEq, ↓reduceIte, j4]) (by simp only [go_sem, Nat.reduceAdd, Nat.reduceMul, Nat.reduceSub, Nat.reduceBEq, Nat.reduceEqDiff, Nat.reduceLeDiff, Nat.reduceLT, Nat.reduceBneDiff, Int.reduceAdd, Int.cast_ofNat_Int, Int.toNat_natCast, Int.reduceLE, Int.reduceLT, Int.reduceToNat, Int.reduceEq, ↓reduceIte])
          | none =>
            rw [hw] at ht hm
            simp only [Option.getD_none, Option.isSome_none] at ht hm
            simp only [f25b0, go_sem, Nat.reduceAdd, Nat.reduceMul, Nat.reduceSub, Nat.reduceBEq, Nat.reduceEqDiff, Nat.reduceLeDiff, Nat.reduceLT, Nat.reduceBneDiff, Int.reduceAdd, Int.cast_ofNat_Int, Int.toNat_natCast, Int.reduceLE, Int.reduceLT, Int.reduceToNat, Int.reduceEq, ↓reduceIte, j0, j2, j3, j4, j5, j6, j7, j8, hlen, d, a1, hb, hx1, hx2, hx3, E.adr, E.adr', E.cel, E.cel', E.all, E.all', E.part, E.part', E.part0, E.part0', E.one, E.one', E.one0, E.one0', d2, d3, hm, set_comm_true, write_end, load_end, Wd.len, Wd.put, Wd.all]
            exact ⟨m, by omega, k + 1, _, by omega, ht, rfl, j11, j12, j13, rfl⟩
        · have d3 : (y.x != x.x) = true := by simp [hx]
          rw [if_neg hx] at ht
          simp only [f25b0, go_sem, Nat.reduceAdd, Nat.reduceMul, Nat.reduceSub, Nat.reduceBEq, Nat.reduceEqDiff, Nat.reduceLeDiff, Nat.reduceLT, Nat.reduceBneDiff, Int.reduceAdd, Int.cast_ofNat_Int, Int.toNat_natCast, Int.reduceLE, Int.reduceLT, Int.reduceToNat, Int.reduceEq, ↓reduceIte, j0, j2, j3, j4, j5, j6, j7, j8, hlen, d, a1, hb, hx1, hx2, hx3, E.adr, E.adr', E.cel, E.cel', E.all, E.all', E.part, E.part', E.part0, E.part0', E.one, E.one', E.one0, E.one0', d2, d3]
          exact ⟨m, by omega, k + 1, G, by omega, ht, rfl, j11, j12, j13, rfl⟩
      · have d2 : (y.n == x.n) = false := by simp [hn]
        rw [if_neg hn] at ht
        simp only [f25b0, go_sem, Nat.reduceAdd, Nat.reduceMul, Nat.reduceSub, Nat.reduceBEq, Nat.reduceEqDiff, Nat.reduceLeDiff, Nat.reduceLT, Nat.reduceBneDiff, Int.reduceAdd, Int.cast_ofNat_Int, Int.toNat_natCast, Int.reduceLE, Int.reduceLT, Int.reduceToNat, Int.reduceEq, ↓reduceIte, j0, j2, j3, j4, j5, j6, j7, j8, hlen, d, hb, hx1, hx2, hx3, E.adr, E.adr', E.cel, E.cel', E.all, E.all', E.part, E.part', E.part0, E.part0', E.one, E.one', E.one0, E.one0', d2]
        exact gN ht _ G (by simp only [go_sem, Nat.reduceAdd, Nat.reduceMul, Nat.reduceSub, Nat.reduceBEq, Nat.reduceEqDiff, Nat.reduceLeDiff, Nat.reduceLT, Nat.reduceBneDiff, Int.reduceAdd, Int.cast_ofNat_Int, Int.toNat_natCast, Int.reduceLE, Int.reduceLT, Int.reduceToNat, Int.reduceEq, ↓reduceIte, j0]) (by simp only [go_sem, Nat.reduceAdd, Nat.reduceMul, Nat.reduceSub, Nat.reduceBEq, Nat.reduceEqDiff, Nat.reduceLeDiff, Nat.reduceLT, Nat.reduceBneDiff, Int.reduceAdd, Int.cast_ofNat_Int, Int.toNat_natCast, Int.reduceLE, Int.reduceLT, Int.reduceToNat, Int.reduceEq, ↓reduceIte, j2]) (by simp only [go_sem, Nat.reduceAdd, Nat.reduceMul, Nat.reduceSub, Nat.reduceBEq, Nat.reduceEqDiff, Nat.reduceLeDiff, Nat.reduceLT, Nat.reduceBneDiff, Int.reduceAdd, Int.cast_ofNat_Int, Int.toNat_natCast, Int.reduceLE, Int.reduceLT, Int.reduceToNat, Int.reduceEq, ↓reduceIte, j3]) (by simp only [go_sem, Nat.reduceAdd, Nat.reduceMul, Nat.reduceSub, Nat.reduceBEq, Nat.reduceEqDiff, Nat.reduceLeDiff, Nat.reduceLT, Nat.reduceBneDiff, Int.reduceAdd, Int.cast_ofNat_Int, Int.toNat_natCast, Int.reduceLE, Int.reduceLT, Int.reduceToNat, Int.reduceEq, ↓reduceIte, j4]) (by simp only [go_sem, Nat.reduceAdd, Nat.reduceMul, Nat.reduceSub, Nat.reduceBEq, Nat.reduceEqDiff, Nat.reduceLeDiff, Nat.reduceLT, Nat.reduceBneDiff, Int.reduceAdd, Int.cast_ofNat_Int, Int.toNat_natCast, Int.reduceLE, Int.reduceLT, Int.reduceToNat, Int.reduceEq, ↓reduceIte, j5]) (by simp only [go_sem, Nat.reduceAdd, Nat.reduceMul, Nat.reduceSub, Nat.reduceBEq, Nat.reduceEqDiff, Nat.reduceLeDiff, Nat.reduceLT, Nat.reduceBneDiff, Int.reduceAdd, Int.cast_ofNat_Int, Int.toNat_natCast, Int.reduceLE, Int.reduceLT, Int.reduceToNat, Int.reduceEq, ↓reduceIte, j11]) (by simp only [go_sem, Nat.reduceAdd, Nat.reduceMul, Nat.reduceSub, Nat.reduceBEq, Nat.reduceEqDiff, Nat.reduceLeDiff, Nat.reduceLT, Nat.reduceBneDiff, Int.reduceAdd, Int.cast_ofNat_Int, Int.toNat_natCast, Int.reduceLE, Int.reduceLT, Int.reduceToNat, Int.reduceEq, ↓reduceIte, j12]) (by simp only [go_sem, Nat.reduceAdd, Nat.reduceMul, Nat.reduceSub, Nat.reduceBEq, Nat.reduceEqDiff, Nat.reduceLeDiff, Nat.reduceLT, Nat.reduceBneDiff, Int.reduceAdd, Int.cast_ofNat_Int, Int.toNat_natCast, Int.reduceLE, Int.reduceLT, Int.reduceToNat, Int.reduceEq, ↓reduceIte, j13])
  · exact ⟨i + 1, [], by omega, rfl, e0, rfl, rfl, e4, rfl, e6, e7, e8, rfl, rfl, rfl, by simp⟩
theorem ev_two (v : AV) (l : List En) (hv : Lst En.c 6 H v l) (hl : l.length < 1000000) : ev (PX hook) lim 25 [v] H = some (twoV (twoW l), H) := by
  refine ev_own _ (PF t25) rfl (by decide) ?_
  have hlen := hv.len
  generalize hR : twoV (twoW l) = R
  simp only [f25, go_sem, Nat.reduceAdd, Nat.reduceMul, Nat.reduceSub, Nat.reduceBEq, Nat.reduceEqDiff, Nat.reduceLeDiff, Nat.reduceLT, Nat.reduceBneDiff, Int.reduceAdd, Int.cast_ofNat_Int, Int.toNat_natCast, Int.reduceLE, Int.reduceLT, Int.reduceToNat, Int.reduceEq, ↓reduceIte, hlen]
  refine GO_loop _ (fun m e H' => ∃ (i : Nat) (G : Heap), i + m = l.length ∧ twoW l = twoN l m i ∧ e 0 = v ∧ e 2 = .int .i64 0 ∧ e 3 = .int .i64 0 ∧ e 4 = .ptr H.length 0 0 ∧ e 5 = .bool false ∧ e 11 = v ∧ e 12 = .int .i64 (l.length : Int) ∧ e 13 = .int .i64 (i : Int) ∧ H' = H ++ (Blk.rw 0 4 [u64 0#64, u64 0#64, u64 0#64, u64 0#64] :: G)) ?_ l.length _ _ ?_
  · rintro m e H' ⟨i, G, hi, ht, i0, i2, i3, i4, i5, i11, i12, i13, rfl⟩
    cases m with
    | zero =>
      have hi' : i = l.length := by omega
      subst hi'
      rw [twoN] at ht
      rw [ht] at hR
      subst hR
      simp only [f25b1, go_sem, Nat.reduceAdd, Nat.reduceMul, Nat.reduceSub, Nat.reduceBEq, Nat.reduceEqDiff, Nat.reduceLeDiff, Nat.reduceLT, Nat.reduceBneDiff, Int.reduceAdd, Int.cast_ofNat_Int, Int.toNat_natCast, Int.reduceLE, Int.reduceLT, Int.reduceToNat, Int.reduceEq, ↓reduceIte, i0, i2, i3, i4, i5, i11, i12, i13, lt_false]
      simp only [go_sem, Nat.reduceAdd, Nat.reduceMul, Nat.reduceSub, Nat.reduceBEq, Nat.reduceEqDiff, Nat.reduceLeDiff, Nat.reduceLT, Nat.reduceBneDiff, Int.reduceAdd, Int.cast_ofNat_Int, Int.toNat_natCast, Int.reduceLE, Int.reduceLT, Int.reduceToNat, Int.reduceEq, ↓reduceIte, twoV, Wd.c, Wd.z, hi_zero, lo_zero]
    | succ m =>
      obtain ⟨x, hx, _⟩ := get_of_lt (show i < l.length by omega)
      obtain ⟨id, ver, q, E⟩ := hv.at (by omega) En.len hx
      have d := lt_true (show i < l.length by omega)
      have a1 := wrap_succ (show i < 1000000 by omega)
      rw [twoN, hx] at ht
      simp only at ht
      simp only [f25b1, go_sem, Nat.reduceAdd, Nat.reduceMul, Nat.reduceSub, Nat.reduceBEq, Nat.reduceEqDiff, Nat.reduceLeDiff, Nat.reduceLT, Nat.reduceBneDiff, Int.reduceAdd, Int.cast_ofNat_Int, Int.toNat_natCast, Int.reduceLE, Int.reduceLT, Int.reduceToNat, Int.reduceEq, ↓reduceIte, i0, i2, i3, i4, i5, i11, i12, i13, d, a1, E.adr, E.adr', E.cel, E.cel', E.all, E.all', E.part, E.part', E.part0, E.part0', E.one, E.one', E.one0, E.one0', En.len, En.put]
      refine two_in v l x _ (fun w => H ++ (Blk.rw 0 4 w.c :: (G ++ [Blk.rw 0 6 x.c]))) (H.length + (G.length + 1)) H.length i (hv.more _) hl (by omega) ?_ ?_ (by simp only [go_sem, Nat.reduceAdd, Nat.reduceMul, Nat.reduceSub, Nat.reduceBEq, Nat.reduceEqDiff, Nat.reduceLeDiff, Nat.reduceLT, Nat.reduceBneDiff, Int.reduceAdd, Int.cast_ofNat_Int, Int.toNat_natCast, Int.reduceLE, Int.reduceLT, Int.reduceToNat, Int.reduceEq, ↓reduceIte, i0]) (by simp only [go_sem, Nat.reduceAdd, Nat.reduceMul, Nat.reduceSub, Nat.reduceBEq, Nat.reduceEqDiff, Nat.reduceLeDiff, Nat.reduceLT, Nat.reduceBneDiff, Int.reduceAdd, Int.cast_ofNat_Int, Int.toNat_natCast, Int.reduceLE, Int.reduceLT, Int.reduceToNat, Int.reduceEq, ↓reduceIte, i4]) (by simp only [go_sem, Nat.reduceAdd, Nat.reduceMul, Nat.reduceSub, Nat.reduceBEq, Nat.reduceEqDiff, Nat.reduceLeDiff, Nat.reduceLT, Nat.reduceBneDiff, Int.reduceAdd, Int.cast_ofNat_Int, Int.toNat_natCast, Int.reduceLE, Int.reduceLT, Int.reduceToNat, Int.reduceEq, ↓reduceIte]) (by simp only [go_sem, Nat.reduceAdd, Nat.reduceMul, Nat.reduceSub, Nat.reduceBEq, Nat.reduceEqDiff, Nat.reduceLeDiff, Nat.reduceLT, Nat.reduceBneDiff, Int.reduceAdd, Int.cast_ofNat_Int, Int.toNat_natCast, Int.reduceLE, Int.reduceLT, Int.reduceToNat, Int.reduceEq, ↓reduceIte]) (by simp only [go_sem, Nat.reduceAdd, Nat.reduceMul, Nat.reduceSub, Nat.reduceBEq, Nat.reduceEqDiff, Nat.reduceLeDiff, Nat.reduceLT, Nat.reduceBneDiff, Int.reduceAdd, Int.cast_ofNat_Int, Int.toNat_natCast, Int.reduceLE, Int.reduceLT, Int.reduceToNat, Int.reduceEq, ↓reduceIte]) ?_ ?_
      · intro L
        have := cells_at (H ++ (Blk.rw 0 4 [u64 0#64, u64 0#64, u64 0#64, u64 0#64] :: G)) L (Blk.rw 0 6 x.c) (H.length + (G.length + 1)) (by simp)
        simpa [Blk.ver, Blk.cells] using this
      · intro L w
        simp only [go_sem, Nat.reduceAdd, Nat.reduceMul, Nat.reduceSub, Nat.reduceBEq, Nat.reduceEqDiff, Nat.reduceLeDiff, Nat.reduceLT, Nat.reduceBneDiff, Int.reduceAdd, Int.cast_ofNat_Int, Int.toNat_natCast, Int.reduceLE, Int.reduceLT, Int.reduceToNat, Int.reduceEq, ↓reduceIte, Wd.put, Wd.len]
      · intro hnone e' G' j0 j2 j3 j4 j5 j11 j12 j13
        rw [hnone] at ht
        simp only [go_sem, Nat.reduceAdd, Nat.reduceMul, Nat.reduceSub, Nat.reduceBEq, Nat.reduceEqDiff, Nat.reduceLeDiff, Nat.reduceLT, Nat.reduceBneDiff, Int.reduceAdd, Int.cast_ofNat_Int, Int.toNat_natCast, Int.reduceLE, Int.reduceLT, Int.reduceToNat, Int.reduceEq, ↓reduceIte, j0, j2, j3, j4, j5, j11, j12, j13, i2, i3, i5, i11, i12, i13, a1]
        exact ⟨m, by omega, i + 1, _, by omega, ht, rfl, rfl⟩
      · intro k w hsome e' G' j2 j3 j4 j5
        rw [hsome] at ht
        simp only at ht
        rw [ht] at hR
        subst hR
        simp only [go_sem, Nat.reduceAdd, Nat.reduceMul, Nat.reduceSub, Nat.reduceBEq, Nat.reduceEqDiff, Nat.reduceLeDiff, Nat.reduceLT, Nat.reduceBneDiff, Int.reduceAdd, Int.cast_ofNat_Int, Int.toNat_natCast, Int.reduceLE, Int.reduceLT, Int.reduceToNat, Int.reduceEq, ↓reduceIte, j2, j3, j4, j5, twoV, Wd.all, Wd.len]
  · exact ⟨0, [], by omega, rfl, by simp only [go_sem, Nat.reduceAdd, Nat.reduceMul, Nat.reduceSub, Nat.reduceBEq, Nat.reduceEqDiff, Nat.reduceLeDiff, Nat.reduceLT, Nat.reduceBneDiff, Int.reduceAdd, Int.cast_ofNat_Int, Int.toNat_natCast, Int.reduceLE, Int.reduceLT, Int.reduceToNat, Int.reduceEq, ↓reduceIte], by simp only [go_sem, Nat.reduceAdd, Nat.reduceMul, Nat.reduceSub, Nat.reduceBEq, Nat.reduceEqDiff, Nat.reduceLeDiff, Nat.reduceLT, Nat.reduceBneDiff, Int.reduceAdd, Int.cast_ofNat_Int, Int.toNat_natCast, Int.reduceLE, Int.reduceLT, Int.reduceToNat, Int.reduceEq, ↓reduceIte], by simp only [go_sem, Nat.reduceAdd, Nat.reduceMul, Nat.reduceSub, Nat.reduceBEq, Nat.reduceEqDiff, Nat.reduceLeDiff, Nat.reduceLT, Nat.reduceBneDiff, Int.reduceAdd, Int.cast_ofNat_Int, Int.toNat_natCast, Int.reduceLE, Int.reduceLT, Int.reduceToNat, Int.reduceEq, ↓reduceIte], by simp only [go_sem, Nat.reduceAdd, Nat.reduceMul, Nat.reduceSub, Nat.reduceBEq, Nat.reduceEqDiff, Nat.reduceLeDiff, Nat.reduceLT, Nat.reduceBneDiff, Int.reduceAdd, Int.cast_ofNat_Int, Int.toNat_natCast, Int.reduceLE, Int.reduceLT, Int.reduceToNat, Int.reduceEq, ↓reduceIte], by simp only [go_sem, Nat.reduceAdd, Nat.reduceMul, Nat.reduceSub, Nat.reduceBEq, Nat.reduceEqDiff, Nat.reduceLeDiff, Nat.reduceLT, Nat.reduceBneDiff, Int.reduceAdd, Int.cast_ofNat_Int, Int.toNat_natCast, Int.reduceLE, Int.reduceLT, Int.reduceToNat, Int.reduceEq, ↓reduceIte], by simp only [go_sem, Nat.reduceAdd, Nat.reduceMul, Nat.reduceSub, Nat.reduceBEq, Nat.reduceEqDiff, Nat.reduceLeDiff, Nat.reduceLT, Nat.reduceBneDiff, Int.reduceAdd, Int.cast_ofNat_Int, Int.toNat_natCast, Int.reduceLE, Int.reduceLT, Int.reduceToNat, Int.reduceEq, ↓reduceIte], by simp only [go_sem, Nat.reduceAdd, Nat.reduceMul, Nat.reduceSub, Nat.reduceBEq, Nat.reduceEqDiff, Nat.reduceLeDiff, Nat.reduceLT, Nat.reduceBneDiff, Int.reduceAdd, Int.cast_ofNat_Int, Int.toNat_natCast, Int.reduceLE, Int.reduceLT, Int.reduceToNat, Int.reduceEq, ↓reduceIte], by simp only [go_sem, Nat.reduceAdd, Nat.reduceMul, Nat.reduceSub, Nat.reduceBEq, Nat.reduceEqDiff, Nat.reduceLeDiff, Nat.reduceLT, Nat.reduceBneDiff, Int.reduceAdd, Int.cast_ofNat_Int, Int.toNat_natCast, Int.reduceLE, Int.reduceLT, Int.reduceToNat, Int.reduceEq, ↓reduceIte], by simp⟩
end Go.Proofs.Ytafonoekobkcdaa.C
