/- THE TRIE'S Put: what it comes to. Conditions: the trie's blocks stand as told. -/
import Derived.Test.YtdapdfaejemgdaaLbV
set_option linter.unusedVariables false
set_option linter.unusedSimpArgs false
namespace Go.Proofs.Ytdapdfaejemgdaa.C
open Go.AM
variable {hook : Nat → Nat → List AV → Heap → Option (AV × Heap)} {lim : Nat} {H : Heap}
variable {B tid : Nat} {w many : Int} {lid lv : Nat} {lm : Bool} {fid : Nat} {fv : AV} {lc : List AV} {nn : Nat} {fr : List Nat} {N : List Bool → Nat} {T : List Bool → Int}

def routeA (a : Adr) (n x : Int) : AV := .agg [u64 (hi a), u64 (lo a), .int .i64 n, .int .i64 x]
/-- It may not be. -/
theorem ev_Put_bad (hp : Hp B H tid w many lid lv lm fid fv lc nn fr) (a : Adr) (n x : Int) (hr : rightR w a n x = false) :
    ∃ L, ev (PX hook) lim 10 [.ptr tid 0 0, .agg [u64 (hi a), u64 (lo a), .int .i64 n, .int .i64 x]] H = some (.tup [.bool false, .int .i64 1], H ++ L) := by
  refine ⟨[.rw 0 4 [u64 (hi a), u64 (lo a), .int .i64 n, .int .i64 x]], ev_raw _ (PF t10) rfl rfl ?_⟩
  have c1 := fun L => Heap.cells_of (hp.app L).top
  simp only [f10, go_sem, Nat.reduceAdd, Nat.reduceMul, Nat.reduceSub, Nat.reduceBEq, Nat.reduceEqDiff, Nat.reduceLeDiff, Nat.reduceLT, Nat.reduceBneDiff, Int.reduceAdd, Int.cast_ofNat_Int, Int.toNat_natCast, Int.reduceLE, Int.reduceLT, Int.reduceToNat, Int.reduceEq, ↓reduceIte, c1, ev_RightR, hr]
theorem getV_tup (w : Int) (T : List Bool → Int) (a : Adr) (n : Int) : ∃ cs : List AV, cs.length = 4 ∧ putCells [u64 0#64, u64 0#64, .int .i64 0, .int .i64 0] 0 cs = cs ∧ getV w T a n = .tup [.agg cs, .bool (rightP w a n && decide (T (pth a n.toNat) ≠ 0))] := by
  unfold getV
  split
  · rename_i h; exact ⟨[u64 (hi a), u64 (lo a), .int .i64 n, .int .i64 (T (pth a n.toNat))], rfl, rfl, by simp [h.1, h.2]⟩
  · rename_i h
    refine ⟨[u64 0#64, u64 0#64, .int .i64 0, .int .i64 0], rfl, rfl, ?_⟩
    have : (rightP w a n && decide (T (pth a n.toNat) ≠ 0)) = false := by
      rw [Bool.and_eq_false_iff]
      by_cases h1 : rightP w a n = true
      · right; simp; exact Decidable.byContradiction fun g => h ⟨h1, g⟩
      · left; simpa using h1
    rw [this]
/-- There are too many. -/
theorem ev_Put_many (hp : Hp B H tid w many lid lv lm fid fv lc nn fr) (r : Rep lc nn fr N T) (hB : lim ≤ B) (a : Adr) (n x : Int) (hr : rightR w a n x = true) (ht : T (pth a n.toNat) = 0) (hm : 256 ≤ many) :
    ∃ L, ev (PX hook) lim 10 [.ptr tid 0 0, .agg [u64 (hi a), u64 (lo a), .int .i64 n, .int .i64 x]] H = some (.tup [.bool false, .int .i64 6], H ++ L) := by
  obtain ⟨cs, h4, hput, hg⟩ := getV_tup w T a n
  refine ⟨[.rw 0 4 [u64 (hi a), u64 (lo a), .int .i64 n, .int .i64 x], .rw 0 4 cs], ev_raw _ (PF t10) rfl rfl ?_⟩
  have hlt := Heap.lt_of hp.top
  have hb1 := hp.b1
  have hll : lim ≤ H.length := by omega
  have c1 := fun L => Heap.cells_of (hp.app L).top
  have eg := fun L => ev_Get (hook := hook) (lim := lim) ((hp.sees r).more L) a n
  have hrp : rightP w a n = true := by unfold rightR at hr; simp only [Bool.and_eq_true] at hr; exact hr.1
  have z : (rightP w a n && decide (T (pth a n.toNat) ≠ 0)) = false := by simp [ht]
  have zm : decide (256 ≤ many) = true := by simp [hm]
  rw [z] at hg
  simp only [f10, go_sem, Nat.reduceAdd, Nat.reduceMul, Nat.reduceSub, Nat.reduceBEq, Nat.reduceEqDiff, Nat.reduceLeDiff, Nat.reduceLT, Nat.reduceBneDiff, Int.reduceAdd, Int.cast_ofNat_Int, Int.toNat_natCast, Int.reduceLE, Int.reduceLT, Int.reduceToNat, Int.reduceEq, ↓reduceIte, c1, ev_RightR, hr, eg, hg, h4, hput, hll, zm]
/-- What stands behind k steps of the way. -/
structure PutInv (B : Nat) (H0 : Heap) (a : Adr) (tid : Nat) (w many : Int) (lid0 fid nn0 : Nat) (N0 : List Bool → Nat) (T : List Bool → Int) (rc : List AV) (n0 k : Nat) (H' : Heap)
    (lid lv : Nat) (lm : Bool) (fv : AV) (lc : List AV) (nn : Nat) (fr : List Nat) (N : List Bool → Nat) : Prop where
  hp : Hp B H' tid w many lid lv lm fid fv lc nn fr
  rep : Rep lc nn fr N T
  box : H'[n0]? = some (.rw 0 4 rc)
  kept : Kept (own tid lid0 fid) H0 H'
  lid : lid = lid0 ∨ H0.length ≤ lid
  nn : nn ≤ nn0 + k
  nodes : ∀ q, N q ≠ 0 ↔ N0 q ≠ 0 ∨ q <+: pth a k
theorem own_kept {tid lid0 lid fid : Nat} {H0 H H' : Heap} (h : Kept (own tid lid0 fid) H0 H) (h' : Kept (own tid lid fid) H H') (hl : lid = lid0 ∨ H0.length ≤ lid) : Kept (own tid lid0 fid) H0 H' := by
  refine h.trans h' (fun i _ hi => hi) (fun i hi hm => ?_)
  simp only [own, List.mem_cons, List.not_mem_nil, or_false] at hm ⊢
  rcases hm with h | h | h
  · exact Or.inl h
  · rcases hl with g | g
    · right; left; omega
    · omega
  · exact Or.inr (Or.inr h)
theorem put_loop (B : Nat) (H0 : Heap) (a : Adr) (tid : Nat) (w many : Int) (lid0 fid nn0 : Nat) (N0 : List Bool → Nat) (T : List Bool → Int) (n n0 : Nat) (x : Int) (hB : lim ≤ B) (hn : n ≤ 128) (hn0 : n0 < H0.length) (hnt : n0 ≠ tid) (hnl : n0 ≠ lid0) (hnf : n0 ≠ fid) (hnn : nn0 + 128 < 1000000) {K : List Frm} {Q : Post} {e : Env} {H : Heap}
    {lid lv : Nat} {lm : Bool} {fv : AV} {lc : List AV} {nn : Nat} {fr : List Nat} {N : List Bool → Nat}
    (inv : PutInv B H0 a tid w many lid0 fid nn0 N0 T [u64 (hi a), u64 (lo a), .int .i64 (n : Int), .int .i64 x] n0 0 H lid lv lm fv lc nn fr N)
    (e0 : e 0 = .ptr tid 0 0) (e3 : e 3 = .ptr n0 0 0) (e8 : e 8 = .int .i64 1) (e37 : e 37 = .int .i64 (n : Int)) (e38 : e 38 = .int .i64 0)
    (g : ∀ (e' : Env) (H' : Heap) lid lv lm fv lc nn fr N, PutInv B H0 a tid w many lid0 fid nn0 N0 T [u64 (hi a), u64 (lo a), .int .i64 (n : Int), .int .i64 x] n0 n H' lid lv lm fv lc nn fr N →
      e' 0 = .ptr tid 0 0 → e' 3 = .ptr n0 0 0 → e' 7 = e 7 → e' 8 = .int .i64 (N (pth a n) : Int) → ON (PX hook) lim K (.exit 0) e' H' Q) :
    GO (PX hook) lim (.loop f10b0) K e H Q := by
  refine GO_loop _ (fun m e' H' => ∃ (k : Nat) (lid lv : Nat) (lm : Bool) (fv : AV) (lc : List AV) (nn : Nat) (fr : List Nat) (N : List Bool → Nat), k + m = n ∧ PutInv B H0 a tid w many lid0 fid nn0 N0 T [u64 (hi a), u64 (lo a), .int .i64 (n : Int), .int .i64 x] n0 k H' lid lv lm fv lc nn fr N ∧
    e' 0 = .ptr tid 0 0 ∧ e' 3 = .ptr n0 0 0 ∧ e' 7 = e 7 ∧ e' 8 = .int .i64 (N (pth a k) : Int) ∧ e' 37 = .int .i64 (n : Int) ∧ e' 38 = .int .i64 (k : Int)) ?_ n _ _ ?_
  · rintro m e' H' ⟨k, lid, lv, lm, fv, lc, nn, fr, N, hk, inv, i0, i3, i7, i8, i37, i38⟩
    cases m with
    | zero =>
      have hk' : k = n := by omega
      subst hk'
      have d : decide ((k : Int) < (k : Int)) = false := by simp
      simp only [f10b0, go_sem, Nat.reduceAdd, Nat.reduceMul, Nat.reduceSub, Nat.reduceBEq, Nat.reduceEqDiff, Nat.reduceLeDiff, Nat.reduceLT, Nat.reduceBneDiff, Int.reduceAdd, Int.cast_ofNat_Int, Int.toNat_natCast, Int.reduceLE, Int.reduceLT, Int.reduceToNat, Int.reduceEq, ↓reduceIte, i0, i3, i8, i37, i38, d]
      exact g _ _ lid lv lm fv lc nn fr N inv (by simp only [go_sem, Nat.reduceAdd, Nat.reduceMul, Nat.reduceSub, Nat.reduceBEq, Nat.reduceEqDiff, Nat.reduceLeDiff, Nat.reduceLT, Nat.reduceBneDiff, Int.reduceAdd, Int.cast_ofNat_Int, Int.toNat_natCast, Int.reduceLE, Int.reduceLT, Int.reduceToNat, Int.reduceEq, ↓reduceIte, i0]) (by simp only [go_sem, Nat.reduceAdd, Nat.reduceMul, Nat.reduceSub, Nat.reduceBEq, Nat.reduceEqDiff, Nat.reduceLeDiff, Nat.reduceLT, Nat.reduceBneDiff, Int.reduceAdd, Int.cast_ofNat_Int, Int.toNat_natCast, Int.reduceLE, Int.reduceLT, Int.reduceToNat, Int.reduceEq, ↓reduceIte, i3]) (by simp only [go_sem, Nat.reduceAdd, Nat.reduceMul, Nat.reduceSub, Nat.reduceBEq, Nat.reduceEqDiff, Nat.reduceLeDiff, Nat.reduceLT, Nat.reduceBneDiff, Int.reduceAdd, Int.cast_ofNat_Int, Int.toNat_natCast, Int.reduceLE, Int.reduceLT, Int.reduceToNat, Int.reduceEq, ↓reduceIte, i7]) (by simp only [go_sem, Nat.reduceAdd, Nat.reduceMul, Nat.reduceSub, Nat.reduceBEq, Nat.reduceEqDiff, Nat.reduceLeDiff, Nat.reduceLT, Nat.reduceBneDiff, Int.reduceAdd, Int.cast_ofNat_Int, Int.toNat_natCast, Int.reduceLE, Int.reduceLT, Int.reduceToNat, Int.reduceEq, ↓reduceIte, i8])
    | succ m =>
      obtain ⟨hp, rep, box, kept, hlid, hnn', nodes⟩ := inv
      have d : decide ((k : Int) < (n : Int)) = true := by rw [decide_eq_true_eq]; omega
      have a1 : IntKind.wrap .i64 ((k : Int) + 1) = ((k + 1 : Nat) : Int) := by rw [wrap_i64] <;> omega
      have hq : N (pth a k) ≠ 0 := (nodes _).2 (Or.inr (List.prefix_refl _))
      have hlt := rep.lt (pth a k)
      have a3 : (0 : Int) ≤ (N (pth a k) : Int) := by omega
      have a4 : (N (pth a k) : Int) < (nn : Int) := by omega
      have cb := Heap.cells_of box
      have c1 := Heap.cells_of hp.top
      have c2 := Heap.cells_of hp.nod
      have ch := rep.child (pth a k) (bitA a k)
      rw [← pth_succ] at ch
      have hpre : ∀ q, q <+: pth a (k + 1) ↔ q <+: pth a k ∨ q = pth a (k + 1) := by
        intro q
        rw [pth_succ, List.prefix_concat_iff]
        exact Or.comm
      by_cases hc : N (pth a (k + 1)) = 0
      · -- a new node
        have hj : ∀ j, j ∈ fr → j < nn := fun j hj => ((rep.free j).1 hj).2.1
        obtain ⟨j, H2, lid', lv', lm', fv', lc1, nn1, fr1, hev, hp2, hid2, kept2, hcase⟩ := ev_fresh (hook := hook) (lim := lim) hp hB hj rep.free_le (by omega)
        have hl := rep.fresh hcase (pth a k) (bitA a k) hq (by rw [← pth_succ]; exact hc)
        obtain ⟨rep2, j0, j1, n1, n2⟩ := hl
        have c3 := Heap.cells_of hp2.top
        have hb2 := hp2.b2
        have hl2 := hp2.len
        have hsb : (if bitA a k then 1 else 0 : Nat) ≤ 1 := by split <;> omega
        have a5 : (N (pth a k) : Int) < (nn1 : Int) := by omega
        obtain ⟨H3, hw, nod3, hk3, hlen3⟩ := Heap.write_ex (lim := lim) (o := N (pth a k) * 3 + (if bitA a k then 1 else 0)) (vs := [.int .i64 (j : Int)]) hp2.nod (by omega) (by simp only [List.length_cons, List.length_nil]; omega)
        simp only [putCells] at nod3
        have top3 := hp2.top
        rw [← hk3 _ (fun g => hp2.ne g.symm)] at top3
        have c4 := Heap.cells_of top3
        have c5 := Heap.cells_of nod3
        have c6 := Heap.cells_of hp2.nod
        have rd : (lc1.set (N (pth a k) * 3 + (if bitA a k then 1 else 0)) (.int .i64 (j : Int)))[N (pth a k) * 3 + (if bitA a k then 1 else 0)]? = some (.int .i64 (j : Int)) := by
          rw [List.getElem?_set_self]; omega
        have hn0' : n0 < H'.length := Nat.lt_of_lt_of_le hn0 kept.1
        have hnl' : n0 ≠ lid := by rcases hlid with h | h <;> omega
        have hnl2 : n0 ≠ lid' := by rcases hid2 with h | h <;> omega
        have box3 : H3[n0]? = some (.rw 0 4 [u64 (hi a), u64 (lo a), .int .i64 (n : Int), .int .i64 x]) := by
          rw [hk3 _ hnl2, kept2.2 _ hn0' (by simp [own]; exact ⟨hnt, hnl', hnf⟩)]; exact box
        have kept3 : Kept (own tid lid0 fid) H0 H3 := by
          have k1 := own_kept kept kept2 hlid
          refine ⟨by rw [hlen3]; exact k1.1, fun i hi hm => ?_⟩
          have : i ≠ lid' := by
            rintro rfl
            simp only [own, List.mem_cons, List.not_mem_nil, or_false, not_or] at hm
            have := kept.1
            rcases hid2 with h | h
            · rcases hlid with h' | h' <;> omega
            · omega
          rw [hk3 i this]; exact k1.2 i hi hm
        have hp3 : Hp B H3 tid w many lid' lv' lm' fid fv' (lc1.set (N (pth a k) * 3 + (if bitA a k then 1 else 0)) (.int .i64 (j : Int))) nn1 fr1 := by
          refine ⟨top3, nod3, by rw [List.length_set]; exact hl2, ?_, hp2.b1, hp2.b2, hp2.ne, hp2.small⟩
          exact hp2.fre.keep fun i hi h1 h2 => hk3 i h2
        have inv3 : PutInv B H0 a tid w many lid0 fid nn0 N0 T [u64 (hi a), u64 (lo a), .int .i64 (n : Int), .int .i64 x] n0 (k + 1) H3 lid' lv' lm' fv' (lc1.set (N (pth a k) * 3 + (if bitA a k then 1 else 0)) (.int .i64 (j : Int))) nn1 fr1 (fun r => if r = pth a k ++ [bitA a k] then j else N r) := by
          refine ⟨hp3, rep2, box3, kept3, ?_, by omega, fun q => ?_⟩
          · have := kept.1
            rcases hid2 with h | h
            · rw [h]; exact hlid
            · right; omega
          · rw [hpre, ← pth_succ]
            by_cases e : q = pth a (k + 1)
            · simp [e]; omega
            · simp only [e, if_false, or_false]; exact nodes q
        have z : ((0 : Int) == 0) = true := rfl
        have hz : lc[N (pth a k) * 3 + (if bitA a k then 1 else 0)]? = some (.int .i64 0) := by rw [ch, hc]; rfl
        have fin : ∃ m', m' < m + 1 ∧ ∃ (k' : Nat) (lid lv : Nat) (lm : Bool) (fv : AV) (lc : List AV) (nn : Nat) (fr : List Nat) (N : List Bool → Nat), k' + m' = n ∧ PutInv B H0 a tid w many lid0 fid nn0 N0 T [u64 (hi a), u64 (lo a), .int .i64 (n : Int), .int .i64 x] n0 k' H3 lid lv lm fv lc nn fr N ∧
            (j : Int) = (N (pth a k') : Int) ∧ k' = k + 1 :=
          ⟨m, by omega, k + 1, lid', lv', lm', fv', _, nn1, fr1, _, by omega, inv3, by rw [pth_succ, if_pos rfl], rfl⟩
        obtain ⟨m', hm', k', l1, l2, l3, l4, l5, l6, l7, l8, f1, f2, f3, rfl⟩ := fin
        cases hb : bitA a k
        · simp only [hb, Bool.false_eq_true, if_false, Nat.add_zero] at hz hw c5 rd
          simp only [f10b0, go_sem, Nat.reduceAdd, Nat.reduceMul, Nat.reduceSub, Nat.reduceBEq, Nat.reduceEqDiff, Nat.reduceLeDiff, Nat.reduceLT, Nat.reduceBneDiff, Int.reduceAdd, Int.cast_ofNat_Int, Int.toNat_natCast, Int.reduceLE, Int.reduceLT, Int.reduceToNat, Int.reduceEq, ↓reduceIte, i0, i3, i8, i37, i38, d, a1, cb, ev_side, hb, Bool.false_eq_true, c1, c2, a3, a4, hz, z, hev, c3, c6, a5, hw, c4, c5, rd]
          refine ⟨m', hm', k + 1, l1, l2, l3, l4, l5, l6, l7, l8, f1, f2, i7, by rw [f3], rfl⟩
        · simp only [hb, if_true] at hz hw c5 rd
          simp only [f10b0, go_sem, Nat.reduceAdd, Nat.reduceMul, Nat.reduceSub, Nat.reduceBEq, Nat.reduceEqDiff, Nat.reduceLeDiff, Nat.reduceLT, Nat.reduceBneDiff, Int.reduceAdd, Int.cast_ofNat_Int, Int.toNat_natCast, Int.reduceLE, Int.reduceLT, Int.reduceToNat, Int.reduceEq, ↓reduceIte, i0, i3, i8, i37, i38, d, a1, cb, ev_side, hb, c1, c2, a3, a4, hz, z, hev, c3, c6, a5, hw, c4, c5, rd]
          refine ⟨m', hm', k + 1, l1, l2, l3, l4, l5, l6, l7, l8, f1, f2, i7, by rw [f3], rfl⟩
      · have z : (((N (pth a (k + 1)) : Nat) : Int) == 0) = false := by simp [hc]
        have inv3 : PutInv B H0 a tid w many lid0 fid nn0 N0 T [u64 (hi a), u64 (lo a), .int .i64 (n : Int), .int .i64 x] n0 (k + 1) H' lid lv lm fv lc nn fr N := by
          refine ⟨hp, rep, box, kept, hlid, by omega, fun q => ?_⟩
          rw [hpre, nodes]
          constructor
          · rintro (h | h)
            · exact Or.inl h
            · exact Or.inr (Or.inl h)
          · rintro (h | h | h)
            · exact Or.inl h
            · exact Or.inr h
            · subst h; exact (nodes _).1 hc
        cases hb : bitA a k
        · rw [hb] at ch
          simp only [Bool.false_eq_true, if_false, Nat.add_zero] at ch
          simp only [f10b0, go_sem, Nat.reduceAdd, Nat.reduceMul, Nat.reduceSub, Nat.reduceBEq, Nat.reduceEqDiff, Nat.reduceLeDiff, Nat.reduceLT, Nat.reduceBneDiff, Int.reduceAdd, Int.cast_ofNat_Int, Int.toNat_natCast, Int.reduceLE, Int.reduceLT, Int.reduceToNat, Int.reduceEq, ↓reduceIte, i0, i3, i8, i37, i38, d, a1, cb, ev_side, hb, Bool.false_eq_true, c1, c2, a3, a4, ch, z]
          exact ⟨m, by omega, k + 1, lid, lv, lm, fv, lc, nn, fr, N, by omega, inv3, i7, rfl, rfl⟩
        · rw [hb] at ch
          simp only [if_true] at ch
          simp only [f10b0, go_sem, Nat.reduceAdd, Nat.reduceMul, Nat.reduceSub, Nat.reduceBEq, Nat.reduceEqDiff, Nat.reduceLeDiff, Nat.reduceLT, Nat.reduceBneDiff, Int.reduceAdd, Int.cast_ofNat_Int, Int.toNat_natCast, Int.reduceLE, Int.reduceLT, Int.reduceToNat, Int.reduceEq, ↓reduceIte, i0, i3, i8, i37, i38, d, a1, cb, ev_side, hb, c1, c2, a3, a4, ch, z]
          exact ⟨m, by omega, k + 1, lid, lv, lm, fv, lc, nn, fr, N, by omega, inv3, i7, rfl, rfl⟩
  · exact ⟨0, lid, lv, lm, fv, lc, nn, fr, N, by omega, inv, e0, e3, rfl, by rw [e8, pth_zero, inv.rep.root]; rfl, e37, e38⟩

theorem ev_Put_ok (hp : Hp B H tid w many lid lv lm fid fv lc nn fr) (r : Rep lc nn fr N T) (hB : lim ≤ B) (a : Adr) (n x : Int) (hr : rightR w a n x = true) (hm : T (pth a n.toNat) ≠ 0 ∨ many < 256) (hm0 : 0 ≤ many ∧ many ≤ 256) (hnn : nn + 128 < 1000000) :
    ∃ (H' : Heap) (lid' lv' : Nat) (lm' : Bool) (fv' : AV) (lc' : List AV) (nn' : Nat) (fr' : List Nat) (N' : List Bool → Nat),
      ev (PX hook) lim 10 [.ptr tid 0 0, .agg [u64 (hi a), u64 (lo a), .int .i64 n, .int .i64 x]] H = some (.tup [.bool (decide (T (pth a n.toNat) ≠ 0)), .int .i64 0], H') ∧
      Hp B H' tid w (if T (pth a n.toNat) ≠ 0 then many else many + 1) lid' lv' lm' fid fv' lc' nn' fr' ∧ Rep lc' nn' fr' N' (fun q => if q = pth a n.toNat then x else T q) ∧
      Kept (own tid lid fid) H H' ∧ (lid' = lid ∨ H.length ≤ lid') ∧ nn' ≤ nn + 128 ∧ ∀ q, N' q ≠ 0 ↔ N q ≠ 0 ∨ q <+: pth a n.toNat := by
  obtain ⟨cs, h4, hput, hg⟩ := getV_tup w T a n
  have hrr := hr
  unfold rightR at hrr
  simp only [Bool.and_eq_true, decide_eq_true_eq] at hrr
  have hrp := (rightP_iff w a n).1 hrr.1
  obtain ⟨k, rfl⟩ : ∃ k : Nat, n = (k : Int) := ⟨n.toNat, by omega⟩
  rw [Int.toNat_natCast] at *
  have hk : k ≤ 128 := by omega
  have htt := Heap.lt_of hp.top
  have hll := Heap.lt_of hp.nod
  have hb1 := hp.b1
  have hfl : fid < H.length := by
    rcases hp.fre with ⟨_, _, h⟩ | ⟨fver, fl, fc, _, h2, _⟩
    · omega
    · exact Heap.lt_of h2
  have hlim : lim ≤ H.length := by omega
  have c1 := fun L => Heap.cells_of (hp.app L).top
  have eg := fun L => ev_Get (hook := hook) (lim := lim) ((hp.sees r).more L) a (k : Int)
  rw [hrr.1, Bool.true_and] at hg
  -- the road behind the way down
  have rest : ∀ (e' : Env) (H' : Heap) lid1 lv1 lm1 fv1 lc1 nn1 fr1 N1,
      PutInv B (H ++ [.rw 0 4 [u64 (hi a), u64 (lo a), .int .i64 (k : Int), .int .i64 x], .rw 0 4 cs]) a tid w many lid fid nn N T [u64 (hi a), u64 (lo a), .int .i64 (k : Int), .int .i64 x] H.length k H' lid1 lv1 lm1 fv1 lc1 nn1 fr1 N1 →
      ∃ H1 H2, Heap.write H' lim lid1 lv1 (N1 (pth a k) * 3 + 2) [.int .i64 x] = some H1 ∧ H1[tid]? = some (.rw 0 4 [.int .i64 w, .int .i64 many, .sl lid1 lv1 0 nn1 lm1, fv1]) ∧
        (Heap.write H1 lim tid 0 1 [.int .i64 (many + 1)] = some H2) ∧
        Hp B H1 tid w many lid1 lv1 lm1 fid fv1 (lc1.set (N1 (pth a k) * 3 + 2) (.int .i64 x)) nn1 fr1 ∧ Kept (own tid lid fid) H H1 ∧
        Hp B H2 tid w (many + 1) lid1 lv1 lm1 fid fv1 (lc1.set (N1 (pth a k) * 3 + 2) (.int .i64 x)) nn1 fr1 ∧ Kept (own tid lid fid) H H2 ∧
        Rep (lc1.set (N1 (pth a k) * 3 + 2) (.int .i64 x)) nn1 fr1 N1 (fun q => if q = pth a k then x else T q) ∧ (lid1 = lid ∨ H.length ≤ lid1) := by
    intro e' H' lid1 lv1 lm1 fv1 lc1 nn1 fr1 N1 inv
    obtain ⟨hp1, rep1, box, kept, hlid, hnn1, nodes⟩ := inv
    have hlt1 := rep1.lt (pth a k)
    have hlen1 := hp1.len
    have hq : N1 (pth a k) ≠ 0 := (nodes _).2 (Or.inr (List.prefix_refl _))
    have hb2 := hp1.b2
    obtain ⟨H1, hw1, nod1, hk1, hl1⟩ := Heap.write_ex (lim := lim) (o := N1 (pth a k) * 3 + 2) (vs := [.int .i64 x]) hp1.nod (by omega) (by simp only [List.length_cons, List.length_nil]; omega)
    simp only [putCells] at nod1
    have top1 := hp1.top
    rw [← hk1 _ (fun g => hp1.ne g.symm)] at top1
    obtain ⟨H2, hw2, top2, hk2, hl2⟩ := Heap.write_ex (lim := lim) (o := 1) (vs := [.int .i64 (many + 1)]) top1 (by omega) (by simp)
    simp only [go_sem, Nat.reduceAdd, Nat.reduceMul, Nat.reduceSub, Nat.reduceBEq, Nat.reduceEqDiff, Nat.reduceLeDiff, Nat.reduceLT, Nat.reduceBneDiff, Int.reduceAdd, Int.cast_ofNat_Int, Int.toNat_natCast, Int.reduceLE, Int.reduceLT, Int.reduceToNat, Int.reduceEq, ↓reduceIte] at top2
    have kept1 : Kept (own tid lid fid) H H' := by
      refine ⟨Nat.le_trans (by simp) kept.1, fun i hi hm => ?_⟩
      rw [kept.2 i (by simp; omega) hm, List.getElem?_append_left hi]
    have hlid' : lid1 = lid ∨ H.length ≤ lid1 := by
      rcases hlid with h | h
      · exact Or.inl h
      · right; simp at h; omega
    have kept2 : Kept (own tid lid fid) H H1 := by
      refine ⟨by rw [hl1]; exact kept1.1, fun i hi hm => ?_⟩
      have : i ≠ lid1 := by
        rintro rfl
        simp only [own, List.mem_cons, List.not_mem_nil, or_false, not_or] at hm
        rcases hlid' with h | h <;> omega
      rw [hk1 i this, kept1.2 i hi hm]
    have kept3 : Kept (own tid lid fid) H H2 := by
      refine ⟨by rw [hl2]; exact kept2.1, fun i hi hm => ?_⟩
      have : i ≠ tid := by
        rintro rfl
        simp only [own, List.mem_cons, List.not_mem_nil, or_false, not_or] at hm
        exact hm.1 trivial
      rw [hk2 i this, kept2.2 i hi hm]
    have hp2 : Hp B H1 tid w many lid1 lv1 lm1 fid fv1 (lc1.set (N1 (pth a k) * 3 + 2) (.int .i64 x)) nn1 fr1 :=
      ⟨top1, nod1, by rw [List.length_set]; exact hp1.len, hp1.fre.keep fun i _ _ h2 => hk1 i h2, hp1.b1, hp1.b2, hp1.ne, hp1.small⟩
    have hp3 : Hp B H2 tid w (many + 1) lid1 lv1 lm1 fid fv1 (lc1.set (N1 (pth a k) * 3 + 2) (.int .i64 x)) nn1 fr1 :=
      ⟨top2, by rw [hk2 _ hp1.ne]; exact nod1, by rw [List.length_set]; exact hp1.len, hp2.fre.keep fun i _ h1 _ => hk2 i h1, hp1.b1, hp1.b2, hp1.ne, hp1.small⟩
    exact ⟨H1, H2, hw1, top1, hw2, hp2, kept2, hp3, kept3, rep1.setAct _ hq x, hlid'⟩
  have inv0 : PutInv B (H ++ [.rw 0 4 [u64 (hi a), u64 (lo a), .int .i64 (k : Int), .int .i64 x], .rw 0 4 cs]) a tid w many lid fid nn N T [u64 (hi a), u64 (lo a), .int .i64 (k : Int), .int .i64 x] H.length 0 (H ++ [.rw 0 4 [u64 (hi a), u64 (lo a), .int .i64 (k : Int), .int .i64 x], .rw 0 4 cs]) lid lv lm fv lc nn fr N := by
    refine ⟨hp.app _, r, by simp, Kept.refl _ _, Or.inl rfl, by omega, fun q => ?_⟩
    rw [pth_zero, List.prefix_nil]
    constructor
    · exact Or.inl
    · rintro (h | rfl)
      · exact h
      · rw [r.root]; omega
  suffices hs : EV (PX hook) lim 10 [.ptr tid 0 0, .agg [u64 (hi a), u64 (lo a), .int .i64 (k : Int), .int .i64 x]] H fun v H' =>
      ∃ (lid' lv' : Nat) (lm' : Bool) (fv' : AV) (lc' : List AV) (nn' : Nat) (fr' : List Nat) (N' : List Bool → Nat), v = .tup [.bool (decide (T (pth a k) ≠ 0)), .int .i64 0] ∧
      Hp B H' tid w (if T (pth a k) ≠ 0 then many else many + 1) lid' lv' lm' fid fv' lc' nn' fr' ∧ Rep lc' nn' fr' N' (fun q => if q = pth a k then x else T q) ∧
      Kept (own tid lid fid) H H' ∧ (lid' = lid ∨ H.length ≤ lid') ∧ nn' ≤ nn + 128 ∧ ∀ q, N' q ≠ 0 ↔ N q ≠ 0 ∨ q <+: pth a k by
    rw [EV_iff] at hs
    obtain ⟨v, H', h1, lid', lv', lm', fv', lc', nn', fr', N', rfl, h2⟩ := hs
    exact ⟨H', lid', lv', lm', fv', lc', nn', fr', N', h1, h2⟩
  rw [EV_raw _ (PF t10) rfl rfl]
  have a1 : IntKind.wrap .i64 (many + 1) = many + 1 := by rw [wrap_i64] <;> omega
  by_cases ht : T (pth a k) = 0
  · have z : decide (T (pth a k) ≠ 0) = false := by simp [ht]
    have zm : decide (256 ≤ many) = false := by rw [decide_eq_false_iff_not]; have := hm.resolve_left (fun g => g ht); omega
    rw [z] at hg
    simp only [f10, go_sem, Nat.reduceAdd, Nat.reduceMul, Nat.reduceSub, Nat.reduceBEq, Nat.reduceEqDiff, Nat.reduceLeDiff, Nat.reduceLT, Nat.reduceBneDiff, Int.reduceAdd, Int.cast_ofNat_Int, Int.toNat_natCast, Int.reduceLE, Int.reduceLT, Int.reduceToNat, Int.reduceEq, ↓reduceIte, c1, ev_RightR, hr, eg, hg, h4, hput, hlim, zm]
    refine put_loop B (H ++ [.rw 0 4 [u64 (hi a), u64 (lo a), .int .i64 (k : Int), .int .i64 x], .rw 0 4 cs]) a tid w many lid fid nn N T k H.length x hB hk (by simp) (by omega) (by omega) (by omega) hnn inv0 (by simp only [go_sem, Nat.reduceAdd, Nat.reduceMul, Nat.reduceSub, Nat.reduceBEq, Nat.reduceEqDiff, Nat.reduceLeDiff, Nat.reduceLT, Nat.reduceBneDiff, Int.reduceAdd, Int.cast_ofNat_Int, Int.toNat_natCast, Int.reduceLE, Int.reduceLT, Int.reduceToNat, Int.reduceEq, ↓reduceIte]) (by simp only [go_sem, Nat.reduceAdd, Nat.reduceMul, Nat.reduceSub, Nat.reduceBEq, Nat.reduceEqDiff, Nat.reduceLeDiff, Nat.reduceLT, Nat.reduceBneDiff, Int.reduceAdd, Int.cast_ofNat_Int, Int.toNat_natCast, Int.reduceLE, Int.reduceLT, Int.reduceToNat, Int.reduceEq, ↓reduceIte]) (by simp only [go_sem, Nat.reduceAdd, Nat.reduceMul, Nat.reduceSub, Nat.reduceBEq, Nat.reduceEqDiff, Nat.reduceLeDiff, Nat.reduceLT, Nat.reduceBneDiff, Int.reduceAdd, Int.cast_ofNat_Int, Int.toNat_natCast, Int.reduceLE, Int.reduceLT, Int.reduceToNat, Int.reduceEq, ↓reduceIte]) (by simp only [go_sem, Nat.reduceAdd, Nat.reduceMul, Nat.reduceSub, Nat.reduceBEq, Nat.reduceEqDiff, Nat.reduceLeDiff, Nat.reduceLT, Nat.reduceBneDiff, Int.reduceAdd, Int.cast_ofNat_Int, Int.toNat_natCast, Int.reduceLE, Int.reduceLT, Int.reduceToNat, Int.reduceEq, ↓reduceIte]) (by simp only [go_sem, Nat.reduceAdd, Nat.reduceMul, Nat.reduceSub, Nat.reduceBEq, Nat.reduceEqDiff, Nat.reduceLeDiff, Nat.reduceLT, Nat.reduceBneDiff, Int.reduceAdd, Int.cast_ofNat_Int, Int.toNat_natCast, Int.reduceLE, Int.reduceLT, Int.reduceToNat, Int.reduceEq, ↓reduceIte]) ?_
    intro e' H' lid1 lv1 lm1 fv1 lc1 nn1 fr1 N1 inv i0 i3 i7 i8
    obtain ⟨H1, H2, hw1, top1, hw2, hp2, kept2, hp3, kept3, rep3, hlid'⟩ := rest e' H' lid1 lv1 lm1 fv1 lc1 nn1 fr1 N1 inv
    simp only [go_sem, Nat.reduceAdd, Nat.reduceMul, Nat.reduceSub, Nat.reduceBEq, Nat.reduceEqDiff, Nat.reduceLeDiff, Nat.reduceLT, Nat.reduceBneDiff, Int.reduceAdd, Int.cast_ofNat_Int, Int.toNat_natCast, Int.reduceLE, Int.reduceLT, Int.reduceToNat, Int.reduceEq, ↓reduceIte] at i7
    have cb := Heap.cells_of inv.box
    have c2 := Heap.cells_of inv.hp.top
    have c3 := Heap.cells_of inv.hp.nod
    have c4 := Heap.cells_of top1
    have hlt1 := inv.rep.lt (pth a k)
    have a3 : (0 : Int) ≤ (N1 (pth a k) : Int) := by omega
    have a4 : (N1 (pth a k) : Int) < (nn1 : Int) := by omega
    have hnn1 := inv.nn
    simp only [go_sem, Nat.reduceAdd, Nat.reduceMul, Nat.reduceSub, Nat.reduceBEq, Nat.reduceEqDiff, Nat.reduceLeDiff, Nat.reduceLT, Nat.reduceBneDiff, Int.reduceAdd, Int.cast_ofNat_Int, Int.toNat_natCast, Int.reduceLE, Int.reduceLT, Int.reduceToNat, Int.reduceEq, ↓reduceIte, i0, i3, i7, i8, cb, c2, c3, a3, a4, hw1, c4, a1, hw2]
    refine ⟨lid1, lv1, lm1, fv1, _, nn1, fr1, N1, by rw [z], ?_, rep3, kept3, hlid', by omega, inv.nodes⟩
    rw [if_neg (fun g => g ht)]; exact hp3
  · have z : decide (T (pth a k) ≠ 0) = true := by simp [ht]
    rw [z] at hg
    simp only [f10, go_sem, Nat.reduceAdd, Nat.reduceMul, Nat.reduceSub, Nat.reduceBEq, Nat.reduceEqDiff, Nat.reduceLeDiff, Nat.reduceLT, Nat.reduceBneDiff, Int.reduceAdd, Int.cast_ofNat_Int, Int.toNat_natCast, Int.reduceLE, Int.reduceLT, Int.reduceToNat, Int.reduceEq, ↓reduceIte, c1, ev_RightR, hr, eg, hg, h4, hput, hlim]
    refine put_loop B (H ++ [.rw 0 4 [u64 (hi a), u64 (lo a), .int .i64 (k : Int), .int .i64 x], .rw 0 4 cs]) a tid w many lid fid nn N T k H.length x hB hk (by simp) (by omega) (by omega) (by omega) hnn inv0 (by simp only [go_sem, Nat.reduceAdd, Nat.reduceMul, Nat.reduceSub, Nat.reduceBEq, Nat.reduceEqDiff, Nat.reduceLeDiff, Nat.reduceLT, Nat.reduceBneDiff, Int.reduceAdd, Int.cast_ofNat_Int, Int.toNat_natCast, Int.reduceLE, Int.reduceLT, Int.reduceToNat, Int.reduceEq, ↓reduceIte]) (by simp only [go_sem, Nat.reduceAdd, Nat.reduceMul, Nat.reduceSub, Nat.reduceBEq, Nat.reduceEqDiff, Nat.reduceLeDiff, Nat.reduceLT, Nat.reduceBneDiff, Int.reduceAdd, Int.cast_ofNat_Int, Int.toNat_natCast, Int.reduceLE, Int.reduceLT, Int.reduceToNat, Int.reduceEq, ↓reduceIte]) (by simp only [go_sem, Nat.reduceAdd, Nat.reduceMul, Nat.reduceSub, Nat.reduceBEq, Nat.reduceEqDiff, Nat.reduceLeDiff, Nat.reduceLT, Nat.reduceBneDiff, Int.reduceAdd, Int.cast_ofNat_Int, Int.toNat_natCast, Int.reduceLE, Int.reduceLT, Int.reduceToNat, Int.reduceEq, ↓reduceIte]) (by simp only [go_sem, Nat.reduceAdd, Nat.reduceMul, Nat.reduceSub, Nat.reduceBEq, Nat.reduceEqDiff, Nat.reduceLeDiff, Nat.reduceLT, Nat.reduceBneDiff, Int.reduceAdd, Int.cast_ofNat_Int, Int.toNat_natCast, Int.reduceLE, Int.reduceLT, Int.reduceToNat, Int.reduceEq, ↓reduceIte]) (by simp only [go_sem, Nat.reduceAdd, Nat.reduceMul, Nat.reduceSub, Nat.reduceBEq, Nat.reduceEqDiff, Nat.reduceLeDiff, Nat.reduceLT, Nat.reduceBneDiff, Int.reduceAdd, Int.cast_ofNat_Int, Int.toNat_natCast, Int.reduceLE, Int.reduceLT, Int.reduceToNat, Int.reduceEq, ↓reduceIte]) ?_
    intro e' H' lid1 lv1 lm1 fv1 lc1 nn1 fr1 N1 inv i0 i3 i7 i8
    obtain ⟨H1, H2, hw1, top1, hw2, hp2, kept2, hp3, kept3, rep3, hlid'⟩ := rest e' H' lid1 lv1 lm1 fv1 lc1 nn1 fr1 N1 inv
    simp only [go_sem, Nat.reduceAdd, Nat.reduceMul, Nat.reduceSub, Nat.reduceBEq, Nat.reduceEqDiff, Nat.reduceLeDiff, Nat.reduceLT, Nat.reduceBneDiff, Int.reduceAdd, Int.cast_ofNat_Int, Int.toNat_natCast, Int.reduceLE, Int.reduceLT, Int.reduceToNat, Int.reduceEq, ↓reduceIte] at i7
    have cb := Heap.cells_of inv.box
    have c2 := Heap.cells_of inv.hp.top
    have c3 := Heap.cells_of inv.hp.nod
    have c4 := Heap.cells_of top1
    have hlt1 := inv.rep.lt (pth a k)
    have a3 : (0 : Int) ≤ (N1 (pth a k) : Int) := by omega
    have a4 : (N1 (pth a k) : Int) < (nn1 : Int) := by omega
    have hnn1 := inv.nn
    simp only [go_sem, Nat.reduceAdd, Nat.reduceMul, Nat.reduceSub, Nat.reduceBEq, Nat.reduceEqDiff, Nat.reduceLeDiff, Nat.reduceLT, Nat.reduceBneDiff, Int.reduceAdd, Int.cast_ofNat_Int, Int.toNat_natCast, Int.reduceLE, Int.reduceLT, Int.reduceToNat, Int.reduceEq, ↓reduceIte, i0, i3, i7, i8, cb, c2, c3, a3, a4, hw1]
    refine ⟨lid1, lv1, lm1, fv1, _, nn1, fr1, N1, by rw [z], ?_, rep3, kept2, hlid', by omega, inv.nodes⟩
    rw [if_pos ht]; exact hp2
end Go.Proofs.Ytdapdfaejemgdaa.C
