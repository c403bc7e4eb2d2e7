/- THE TRIE'S Drop: what it comes to. Conditions: the trie's blocks stand as told. -/
import Derived.Test.YtdapdfaejemgdaaLbX
set_option linter.unusedVariables false
set_option linter.unusedSimpArgs false
namespace Go.Proofs.Ytdapdfaejemgdaa.C
open Go.AM
variable {hook : Nat → Nat → List AV → Heap → Option (AV × Heap)} {lim : Nat} {H : Heap}
variable {B tid : Nat} {w many : Int} {lid lv : Nat} {lm : Bool} {fid : Nat} {fv : AV} {lc : List AV} {nn : Nat} {fr : List Nat} {N : List Bool → Nat} {T : List Bool → Int}

theorem Hp.keep {H' : Heap} {P : List Nat} (hp : Hp B H tid w many lid lv lm fid fv lc nn fr) (hk : Kept P H H') (h1 : tid ∉ P) (h2 : lid ∉ P) (h3 : fid ∉ P) : Hp B H' tid w many lid lv lm fid fv lc nn fr := by
  refine ⟨hk.at hp.top h1, hk.at hp.nod h2, hp.len, ?_, hp.b1, hp.b2, hp.ne, hp.small⟩
  rcases hp.fre with h | ⟨fver, fl, fc, g1, g2, g3, g4, g5, g6⟩
  · exact Or.inl h
  · exact Or.inr ⟨fver, fl, fc, g1, hk.at g2 h3, g3, g4, g5, g6⟩
/-- The numbers of the nodes on the way. -/
def wayC (N : List Bool → Nat) (a : Adr) (k : Nat) : List AV := (List.range (k + 1)).map fun j => AV.int .i64 (N (pth a j) : Int)
theorem wayC_len (N : List Bool → Nat) (a : Adr) (k : Nat) : (wayC N a k).length = k + 1 := by simp [wayC]
theorem wayC_get (N : List Bool → Nat) (a : Adr) (k j : Nat) (h : j ≤ k) : (wayC N a k)[j]? = some (.int .i64 (N (pth a j) : Int)) := by
  simp [wayC, show j < k + 1 by omega]
theorem wayC_succ (N : List Bool → Nat) (a : Adr) (k : Nat) : wayC N a (k + 1) = wayC N a k ++ [.int .i64 (N (pth a (k + 1)) : Int)] := by
  simp [wayC, List.range_succ]
theorem way_loop (B : Nat) (H0 : Heap) (a : Adr) (n n0 wid0 : Nat) (hB : lim ≤ wid0) (hn : n ≤ 128) (hn0 : n0 < H0.length) (hnw : n0 ≠ wid0) {K : List Frm} {Q : Post} {e : Env}
    (hp : Hp B H0 tid w many lid lv lm fid fv lc nn fr) (rep : Rep lc nn fr N T) (h1 : tid ≠ wid0) (h2 : lid ≠ wid0) (h3 : fid ≠ wid0)
    (box : H0[n0]? = some (.rw 0 3 [u64 (hi a), u64 (lo a), .int .i64 (n : Int)])) (way : H0[wid0]? = some (.rw 0 1 [.int .i64 1]))
    (e0 : e 0 = .ptr tid 0 0) (e3 : e 3 = .ptr n0 0 0) (e7 : e 7 = .sl wid0 0 0 1 true) (e27 : e 27 = .int .i64 (n : Int)) (e28 : e 28 = .int .i64 0)
    (g : ∀ (e' : Env) (H' : Heap) (id ver : Nat) (l : Bool), Kept [wid0] H0 H' → H'[id]? = some (.rw ver 1 (wayC N a n)) → (id = wid0 ∨ H0.length ≤ id) → e' 0 = .ptr tid 0 0 → e' 3 = .ptr n0 0 0 → e' 7 = .sl id ver 0 (n + 1) l → ON (PX hook) lim K (.exit 0) e' H' Q) :
    GO (PX hook) lim (.loop f31b0) K e H0 Q := by
  have hw0 := Heap.lt_of way
  refine GO_loop _ (fun m e' H' => ∃ (k id ver : Nat) (l : Bool), k + m = n ∧ Kept [wid0] H0 H' ∧ H'[id]? = some (.rw ver 1 (wayC N a k)) ∧ (id = wid0 ∨ H0.length ≤ id) ∧ e' 0 = .ptr tid 0 0 ∧ e' 3 = .ptr n0 0 0 ∧ e' 7 = .sl id ver 0 (k + 1) l ∧ e' 27 = .int .i64 (n : Int) ∧ e' 28 = .int .i64 (k : Int)) ?_ n _ _ ?_
  · rintro m e' H' ⟨k, id, ver, l, hk, kept, way', hid, i0, i3, i7, i27, i28⟩
    cases m with
    | zero =>
      have hk' : k = n := by omega
      subst hk'
      have d : decide ((k : Int) < (k : Int)) = false := by simp
      simp only [f31b0, go_sem, Nat.reduceAdd, Nat.reduceMul, Nat.reduceSub, Nat.reduceBEq, Nat.reduceEqDiff, Nat.reduceLeDiff, Nat.reduceLT, Nat.reduceBneDiff, Int.reduceAdd, Int.cast_ofNat_Int, Int.toNat_natCast, Int.reduceLE, Int.reduceLT, Int.reduceToNat, Int.reduceEq, ↓reduceIte, i27, i28, d]
      exact g _ _ id ver l kept way' hid (by simp only [go_sem, Nat.reduceAdd, Nat.reduceMul, Nat.reduceSub, Nat.reduceBEq, Nat.reduceEqDiff, Nat.reduceLeDiff, Nat.reduceLT, Nat.reduceBneDiff, Int.reduceAdd, Int.cast_ofNat_Int, Int.toNat_natCast, Int.reduceLE, Int.reduceLT, Int.reduceToNat, Int.reduceEq, ↓reduceIte, i0]) (by simp only [go_sem, Nat.reduceAdd, Nat.reduceMul, Nat.reduceSub, Nat.reduceBEq, Nat.reduceEqDiff, Nat.reduceLeDiff, Nat.reduceLT, Nat.reduceBneDiff, Int.reduceAdd, Int.cast_ofNat_Int, Int.toNat_natCast, Int.reduceLE, Int.reduceLT, Int.reduceToNat, Int.reduceEq, ↓reduceIte, i3]) (by simp only [go_sem, Nat.reduceAdd, Nat.reduceMul, Nat.reduceSub, Nat.reduceBEq, Nat.reduceEqDiff, Nat.reduceLeDiff, Nat.reduceLT, Nat.reduceBneDiff, Int.reduceAdd, Int.cast_ofNat_Int, Int.toNat_natCast, Int.reduceLE, Int.reduceLT, Int.reduceToNat, Int.reduceEq, ↓reduceIte, i7])
    | succ m =>
      have d : decide ((k : Int) < (n : Int)) = true := by rw [decide_eq_true_eq]; omega
      have a1 : IntKind.wrap .i64 ((k : Int) + 1) = ((k + 1 : Nat) : Int) := by rw [wrap_i64] <;> omega
      have hp' := hp.keep kept (by simpa using h1) (by simpa using h2) (by simpa using h3)
      have box' := kept.at box (by simpa using hnw)
      have c1 := Heap.cells_of hp'.top
      have c2 := Heap.cells_of hp'.nod
      have c3 := Heap.cells_of box'
      have c4 := Heap.cells_of way'
      have wg := wayC_get N a k k (Nat.le_refl _)
      have hlt := rep.lt (pth a k)
      have a2 : (0 : Int) ≤ (k : Int) := by omega
      have a3 : (k : Int) < ((k + 1 : Nat) : Int) := by omega
      have a4 : (0 : Int) ≤ (N (pth a k) : Int) := by omega
      have a5 : (N (pth a k) : Int) < (nn : Int) := by omega
      have hidl : lim ≤ id := by have := kept.1; rcases hid with h | h <;> omega
      obtain ⟨id', ver', H1, ha, hn1, hid', hlen, hk1⟩ := append_ex (bytes := 8) (lim := lim) (l := l) (n := k + 1) (xs := wayC N a k) (ys := [.int .i64 (N (pth a (k + 1)) : Int)]) way' hidl (by rw [wayC_len]; omega) (List.take_of_length_le (by rw [wayC_len]; omega)) rfl (by omega)
      rw [← wayC_succ] at hn1
      have kept1 : Kept [wid0] H0 H1 := by
        refine ⟨by have := kept.1; omega, fun i hi hm => ?_⟩
        have : i ≠ id := by
          rintro rfl
          rcases hid with h | h
          · exact hm (by simp [h])
          · omega
        have hl := kept.1
        rw [hk1 i (by omega) this, kept.2 i hi hm]
      have hid1 : id' = wid0 ∨ H0.length ≤ id' := by
        have := kept.1
        rcases hid' with h | h
        · rw [h]; exact hid
        · right; omega
      have ch0 := rep.child0 (pth a k)
      have ch1 := rep.child1 (pth a k)
      have pe := pth_succ a k
      cases hb : bitA a k
      · rw [hb] at pe
        rw [← pe] at ch0
        simp only [f31b0, go_sem, Nat.reduceAdd, Nat.reduceMul, Nat.reduceSub, Nat.reduceBEq, Nat.reduceEqDiff, Nat.reduceLeDiff, Nat.reduceLT, Nat.reduceBneDiff, Int.reduceAdd, Int.cast_ofNat_Int, Int.toNat_natCast, Int.reduceLE, Int.reduceLT, Int.reduceToNat, Int.reduceEq, ↓reduceIte, i0, i3, i7, i27, i28, d, a1, a2, a3, a4, a5, c1, c2, c3, c4, wg, ev_side, hb, Bool.false_eq_true, ch0, ha]
        exact ⟨m, by omega, k + 1, id', ver', false, by omega, kept1, hn1, hid1, rfl, rfl⟩
      · rw [hb] at pe
        rw [← pe] at ch1
        simp only [f31b0, go_sem, Nat.reduceAdd, Nat.reduceMul, Nat.reduceSub, Nat.reduceBEq, Nat.reduceEqDiff, Nat.reduceLeDiff, Nat.reduceLT, Nat.reduceBneDiff, Int.reduceAdd, Int.cast_ofNat_Int, Int.toNat_natCast, Int.reduceLE, Int.reduceLT, Int.reduceToNat, Int.reduceEq, ↓reduceIte, i0, i3, i7, i27, i28, d, a1, a2, a3, a4, a5, c1, c2, c3, c4, wg, ev_side, hb, ch1, ha]
        exact ⟨m, by omega, k + 1, id', ver', false, by omega, kept1, hn1, hid1, rfl, rfl⟩
  · refine ⟨0, wid0, 0, true, by omega, Kept.refl _ _, ?_, Or.inl rfl, e0, e3, e7, e27, e28⟩
    rw [way]
    simp [wayC, pth_zero, rep.root]

/-- What stands behind some nodes' removal: those of the way that are longer than k are gone. -/
structure DropInv (B : Nat) (H0 : Heap) (a : Adr) (n : Nat) (tid : Nat) (w many : Int) (lid0 fid0 nn0 : Nat) (N0 : List Bool → Nat) (T : List Bool → Int) (n0 wid wver k : Nat) (H' : Heap)
    (lid lv : Nat) (lm : Bool) (fid : Nat) (fv : AV) (lc : List AV) (nn : Nat) (fr : List Nat) (N : List Bool → Nat) : Prop where
  hp : Hp B H' tid w many lid lv lm fid fv lc nn fr
  rep : Rep lc nn fr N T
  box : H'[n0]? = some (.rw 0 3 [u64 (hi a), u64 (lo a), .int .i64 (n : Int)])
  way : H'[wid]? = some (.rw wver 1 (wayC N0 a n))
  kept : Kept (own tid lid0 fid0) H0 H'
  lid : lid = lid0
  fid : fid = fid0 ∨ H0.length ≤ fid
  nn : nn = nn0
  nodes : ∀ q, N q = if k < q.length ∧ q <+: pth a n then 0 else N0 q
theorem own_kept3 {tid lid fid0 fid : Nat} {H0 H H' : Heap} (h : Kept (own tid lid fid0) H0 H) (h' : Kept (own tid lid fid) H H') (hl : fid = fid0 ∨ H0.length ≤ fid) : Kept (own tid lid fid0) H0 H' := by
  refine h.trans h' (fun i _ hi => hi) (fun i hi hm => ?_)
  simp only [own, List.mem_cons, List.not_mem_nil, or_false] at hm ⊢
  rcases hm with h | h | h
  · exact Or.inl h
  · exact Or.inr (Or.inl h)
  · rcases hl with g | g
    · right; right; omega
    · omega
/-- A free number more. -/
theorem free_push {H : Heap} (hp : Hp B H tid w many lid lv lm fid fv lc nn fr) (hB : lim ≤ B) (x : Nat) (hfr : fr.length < 1000000) :
    ∃ fid' fv' H1, appendV (H ++ [.rw 0 1 [.int .i64 (x : Int)]]) lim 1 8 fv (.sl H.length 0 0 1 true) = some (fv', H1) ∧ (fid' = fid ∨ H.length < fid') ∧ H.length < H1.length ∧ (∀ i, i < H.length → i ≠ fid ∨ fid = tid → H1[i]? = H[i]?) ∧
      (∃ fver fl fc, fv' = .sl fid' fver 0 (fr.length + 1) fl ∧ H1[fid']? = some (.rw fver 1 fc) ∧ fc.take (fr.length + 1) = (fr ++ [x]).map (fun (i : Nat) => AV.int .i64 (i : Int)) ∧ B ≤ fid' ∧ fid' ≠ tid ∧ fid' ≠ lid) := by
  have ht := Heap.lt_of hp.top
  have hl := Heap.lt_of hp.nod
  have hb1 := hp.b1
  rcases hp.fre with ⟨rfl, rfl, hf⟩ | ⟨fver, fl, fc, rfl, h2, h3, h4, h5, h6⟩
  · obtain ⟨id', ver', H1, ha, hn, hid, hlen, hk⟩ := append_nil_ex (H := H) (lim := lim) (sz := 1) (bytes := 8) (ys := [.int .i64 (x : Int)]) rfl (by omega)
    refine ⟨id', _, H1, ha, Or.inr hid, hlen, fun i hi _ => hk i hi, ver', false, _, rfl, hn, rfl, by omega, by omega, by omega⟩
  · have hfc : fr.length ≤ fc.length := by
      have := congrArg List.length h3
      simp only [List.length_take, List.length_map] at this; omega
    have hfl := Heap.lt_of h2
    obtain ⟨id', ver', H1, ha, hn, hid, hlen, hk⟩ := append_ex (bytes := 8) (lim := lim) (l := fl) (n := fr.length) (sz := 1) (xs := fr.map (fun (i : Nat) => AV.int .i64 (i : Int))) (ys := [.int .i64 (x : Int)]) h2 (by omega) (by omega) (by rw [Nat.mul_one]; exact h3) rfl (by omega)
    refine ⟨id', _, H1, ha, hid, hlen, fun i hi hor => ?_, ver', false, _, rfl, hn, ?_, ?_, ?_, ?_⟩
    · rcases hor with h | h
      · exact hk i hi h
      · exact absurd h h5
    · rw [List.take_of_length_le (by simp)]; simp
    · rcases hid with h | h <;> omega
    · rcases hid with h | h <;> omega
    · rcases hid with h | h <;> omega
theorem drop_loop (B : Nat) (H0 : Heap) (a : Adr) (n : Nat) (tid : Nat) (w many : Int) (lid0 fid0 nn0 : Nat) (N0 : List Bool → Nat) (T : List Bool → Int) (n0 wid wver : Nat) (wl : Bool) (hB : lim ≤ B) (hn : n ≤ 128)
    (hn0 : n0 < H0.length) (hnt : n0 ≠ tid) (hnl : n0 ≠ lid0) (hnf : n0 ≠ fid0) (hw0 : wid < H0.length) (hwt : wid ≠ tid) (hwl : wid ≠ lid0) (hwf : wid ≠ fid0) (hex : ∀ j, j ≤ n → N0 (pth a j) ≠ 0)
    {K : List Frm} {Q : Post} {e : Env} {H : Heap} {lid lv : Nat} {lm : Bool} {fid : Nat} {fv : AV} {lc : List AV} {nn : Nat} {fr : List Nat} {N : List Bool → Nat}
    (inv : DropInv B H0 a n tid w many lid0 fid0 nn0 N0 T n0 wid wver n H lid lv lm fid fv lc nn fr N)
    (e0 : e 0 = .ptr tid 0 0) (e3 : e 3 = .ptr n0 0 0) (e7 : e 7 = .sl wid wver 0 (n + 1) wl) (e9 : e 9 = .int .i64 (n : Int))
    (g : ∀ (e' : Env) (H' : Heap) k lid lv lm fid fv lc nn fr N, k ≤ n → DropInv B H0 a n tid w many lid0 fid0 nn0 N0 T n0 wid wver k H' lid lv lm fid fv lc nn fr N →
      (k = 0 ∨ T (pth a k) ≠ 0 ∨ ∃ c, N (pth a k ++ [c]) ≠ 0) → ON (PX hook) lim K (.exit 2) e' H' Q) :
    GO (PX hook) lim (.loop f31b1) K e H Q := by
  refine GO_loop _ (fun m e' H' => m ≤ n ∧ ∃ (lid lv : Nat) (lm : Bool) (fid : Nat) (fv : AV) (lc : List AV) (nn : Nat) (fr : List Nat) (N : List Bool → Nat), DropInv B H0 a n tid w many lid0 fid0 nn0 N0 T n0 wid wver m H' lid lv lm fid fv lc nn fr N ∧
    e' 0 = .ptr tid 0 0 ∧ e' 3 = .ptr n0 0 0 ∧ e' 7 = .sl wid wver 0 (n + 1) wl ∧ e' 9 = .int .i64 (m : Int)) ?_ n _ _ ⟨Nat.le_refl _, lid, lv, lm, fid, fv, lc, nn, fr, N, inv, e0, e3, e7, e9⟩
  rintro m e' H' ⟨hm, lid, lv, lm, fid, fv, lc, nn, fr, N, inv, i0, i3, i7, i9⟩
  cases m with
  | zero =>
    simp only [f31b1, go_sem, Nat.reduceAdd, Nat.reduceMul, Nat.reduceSub, Nat.reduceBEq, Nat.reduceEqDiff, Nat.reduceLeDiff, Nat.reduceLT, Nat.reduceBneDiff, Int.reduceAdd, Int.cast_ofNat_Int, Int.toNat_natCast, Int.reduceLE, Int.reduceLT, Int.reduceToNat, Int.reduceEq, ↓reduceIte, i0, i3, i7, i9]
    exact g _ _ 0 lid lv lm fid fv lc nn fr N (by omega) inv (Or.inl rfl)
  | succ k =>
    obtain ⟨hp, rep, box, way, kept, rfl, hfid, rfl, nodes⟩ := inv
    have c1 := Heap.cells_of hp.top
    have c2 := Heap.cells_of hp.nod
    have c3 := Heap.cells_of box
    have c4 := Heap.cells_of way
    have d : decide ((0 : Int) < ((k + 1 : Nat) : Int)) = true := by rw [decide_eq_true_eq]; omega
    have hNk : N (pth a (k + 1)) = N0 (pth a (k + 1)) := by
      rw [nodes, if_neg]; rintro ⟨h, _⟩; rw [pth_length] at h; omega
    have hNk0 : N (pth a k) = N0 (pth a k) := by
      rw [nodes, if_neg]; rintro ⟨h, _⟩; rw [pth_length] at h; omega
    have wg := wayC_get N0 a n (k + 1) hm
    rw [← hNk] at wg
    have wg0 := wayC_get N0 a n k (by omega)
    rw [← hNk0] at wg0
    have hlt := rep.lt (pth a (k + 1))
    have hlt0 := rep.lt (pth a k)
    have hsm := hp.small
    have hlen := hp.len
    have b0 : (0 : Int) ≤ ((k + 1 : Nat) : Int) := by omega
    have b1 : ((k + 1 : Nat) : Int) < ((n + 1 : Nat) : Int) := by omega
    have b2 : (0 : Int) ≤ (N (pth a (k + 1)) : Int) := by omega
    have b3 : (N (pth a (k + 1)) : Int) < (nn : Int) := by omega
    have b4 : (0 : Int) ≤ (k : Int) := by omega
    have b5 : (k : Int) < ((n + 1 : Nat) : Int) := by omega
    have b6 : (0 : Int) ≤ (N (pth a k) : Int) := by omega
    have b7 : (N (pth a k) : Int) < (nn : Int) := by omega
    have a1 : IntKind.wrap .i64 (((k + 1 : Nat) : Int) - 1) = (k : Int) := by rw [wrap_i64] <;> omega
    have r3a : N (pth a (k + 1)) * 3 + 3 ≤ lc.length := by omega
    have r3 : List.take 3 (List.drop (N (pth a (k + 1)) * 3) lc) = [.int .i64 (N (pth a (k + 1) ++ [false]) : Int), .int .i64 (N (pth a (k + 1) ++ [true]) : Int), .int .i64 (T (pth a (k + 1)))] := by
      have ch0 := rep.child0 (pth a (k + 1))
      have ch1 := rep.child1 (pth a (k + 1))
      have ch2 := rep.act (pth a (k + 1))
      apply List.ext_getElem?
      intro j
      rw [List.getElem?_take, List.getElem?_drop]
      by_cases hj : j < 3
      · rw [if_pos hj]
        have : j = 0 ∨ j = 1 ∨ j = 2 := by omega
        rcases this with rfl | rfl | rfl
        · exact ch0
        · exact ch1
        · exact ch2
      · rw [if_neg hj, List.getElem?_eq_none (by simp; omega)]
    by_cases hemp : N (pth a (k + 1) ++ [false]) = 0 ∧ N (pth a (k + 1) ++ [true]) = 0 ∧ T (pth a (k + 1)) = 0
    · -- nothing hangs there
      obtain ⟨z1, z2, z3⟩ := hemp
      have zz : ((0 : Int) == 0) = true := rfl
      rw [z1, z2, z3] at r3
      by_cases hz : N (pth a (k + 1)) = 0
      · exact absurd (hNk ▸ hz) (hex _ hm)
      · have hb2 := hp.b2
        have hb1 := hp.b1
        have hsb : (if bitA a k then 1 else 0 : Nat) ≤ 1 := by split <;> omega
        have hl0 := kept.1
        obtain ⟨H1, hw1, nod1, hk1, hl1⟩ := Heap.write_ex (lim := lim) (o := N (pth a k) * 3 + (if bitA a k then 1 else 0)) (vs := [.int .i64 0]) hp.nod (by omega) (by simp only [List.length_cons, List.length_nil]; omega)
        simp only [putCells] at nod1
        have top1 := hp.top
        rw [← hk1 _ (fun g => hp.ne g.symm)] at top1
        have hp1 : Hp B H1 tid w many lid lv lm fid fv (lc.set (N (pth a k) * 3 + (if bitA a k then 1 else 0)) (.int .i64 0)) nn fr :=
          ⟨top1, nod1, by rw [List.length_set]; exact hlen, hp.fre.keep fun i _ _ h2 => hk1 i h2, hp.b1, hp.b2, hp.ne, hp.small⟩
        have hfrl := rep.free_le
        obtain ⟨fid', fv', H2, ha, hfid', hlen2, hk2, fver, fl, fc, hfv, hfb, hft, hfB, hft', hfl'⟩ := free_push (lim := lim) hp1 hB (N (pth a (k + 1))) (by omega)
        have ht1 := Heap.lt_of top1
        have hl1' := Heap.lt_of nod1
        have ne_tf : tid ≠ fid ∨ fid = tid := by
          by_cases h : fid = tid
          · exact Or.inr h
          · exact Or.inl fun g => h g.symm
        have ne_lf : lid ≠ fid ∨ fid = tid := by
          rcases hp.fre with ⟨_, _, h⟩ | ⟨_, _, _, _, _, _, _, _, h⟩
          · exact Or.inr h
          · exact Or.inl fun g => h g.symm
        have top2 : H2[tid]? = some (.rw 0 4 [.int .i64 w, .int .i64 many, .sl lid lv 0 nn lm, fv]) := by rw [hk2 _ ht1 ne_tf]; exact top1
        have nod2 := nod1
        rw [← hk2 _ hl1' ne_lf] at nod2
        obtain ⟨H3, hw3, top3, hk3, hl3⟩ := Heap.write_ex (lim := lim) (o := 3) (vs := [fv']) top2 (by omega) (by simp)
        have c5 := Heap.cells_of top1
        have c6 : H1.cells wid wver = some (wayC N0 a n) := Heap.cells_of (by rw [hk1 _ hwl]; exact way)
        have c7 := Heap.cells_of top2
        subst hfv
        simp only [go_sem, Nat.reduceAdd, Nat.reduceMul, Nat.reduceSub, Nat.reduceBEq, Nat.reduceEqDiff, Nat.reduceLeDiff, Nat.reduceLT, Nat.reduceBneDiff, Int.reduceAdd, Int.cast_ofNat_Int, Int.toNat_natCast, Int.reduceLE, Int.reduceLT, Int.reduceToNat, Int.reduceEq, ↓reduceIte] at top3
        have pe := pth_succ a k
        have hidf : fid' = fid0 ∨ H0.length ≤ fid' := by
          rcases hfid' with h | h
          · rw [h]; exact hfid
          · right; omega
        have nf : ∀ i, i < H0.length → i ≠ fid0 → i ≠ fid := fun i hi hne g => by rcases hfid with h | h <;> omega
        have st : ∀ i, i < H0.length → i ≠ tid → i ≠ lid → i ≠ fid0 → H3[i]? = H'[i]? := fun i hi h1 h2 h3 => by
          rw [hk3 i h1, hk2 i (by omega) (Or.inl (nf i hi h3)), hk1 i h2]
        have kept3 : Kept (own tid lid fid) H' H3 := by
          refine ⟨by omega, fun i hi hmm => ?_⟩
          simp only [own, List.mem_cons, List.not_mem_nil, or_false, not_or] at hmm
          rw [hk3 i hmm.1, hk2 i (by omega) (Or.inl hmm.2.2), hk1 i hmm.2.1]
        have rep3 := rep.unlink (pth a k) (bitA a k) (by rw [← pe]; exact hz) (by rw [← pe]; exact z3) (by
          intro c
          rw [← pe]
          cases c
          · exact z1
          · exact z2)
        rw [← pe] at rep3
        have inv3 : DropInv B H0 a n tid w many lid fid0 nn N0 T n0 wid wver k H3 lid lv lm fid' (.sl fid' fver 0 (fr.length + 1) fl) (lc.set (N (pth a k) * 3 + (if bitA a k then 1 else 0)) (.int .i64 0)) nn (fr ++ [N (pth a (k + 1))]) (fun r => if r = pth a (k + 1) then 0 else N r) := by
          refine ⟨⟨top3, by rw [hk3 _ hp.ne]; exact nod2, by rw [List.length_set]; exact hlen, ?_, hp.b1, hp.b2, hp.ne, hp.small⟩, rep3, ?_, ?_, own_kept3 kept kept3 hfid, rfl, hidf, rfl, ?_⟩
          · refine Or.inr ⟨fver, fl, fc, by simp, by rw [hk3 _ hft']; exact hfb, by simpa using hft, hfB, hft', hfl'⟩
          · rw [st n0 hn0 hnt hnl hnf]; exact box
          · rw [st wid hw0 hwt hwl hwf]; exact way
          · intro q
            by_cases e : q = pth a (k + 1)
            · subst e
              rw [if_pos rfl, if_pos ⟨by rw [pth_length]; omega, pth_prefix_iff.2 ⟨hm, fun _ _ => rfl⟩⟩]
            · rw [if_neg e, nodes]
              by_cases h1 : k < q.length ∧ q <+: pth a n
              · have : k + 1 < q.length := by
                  obtain ⟨j, hj, rfl⟩ := prefix_pth.1 h1.2
                  rw [pth_length] at h1 ⊢
                  have : j ≠ k + 1 := fun g => e (by rw [g])
                  omega
                rw [if_pos ⟨this, h1.2⟩, if_pos h1]
              · rw [if_neg h1, if_neg (fun g => h1 ⟨by omega, g.2⟩)]
        have zt : ((0 : Int) == 0) = true := rfl
        cases hb : bitA a k
        · simp only [hb, Bool.false_eq_true, if_false, Nat.add_zero] at hw1
          simp only [f31b1, go_sem, Nat.reduceAdd, Nat.reduceMul, Nat.reduceSub, Nat.reduceBEq, Nat.reduceEqDiff, Nat.reduceLeDiff, Nat.reduceLT, Nat.reduceBneDiff, Int.reduceAdd, Int.cast_ofNat_Int, Int.toNat_natCast, Int.reduceLE, Int.reduceLT, Int.reduceToNat, Int.reduceEq, ↓reduceIte, i0, i3, i7, i9, d, c1, c2, c3, c4, wg, wg0, b0, b1, b2, b3, b4, b5, b6, b7, a1, r3a, r3, zt, ev_side, hb, Bool.false_eq_true, hw1, c5, c6, ha, c7, hw3]
          exact ⟨k, by omega, by omega, lid, lv, lm, fid', _, _, nn, _, _, inv3, rfl⟩
        · simp only [hb, if_true] at hw1
          simp only [f31b1, go_sem, Nat.reduceAdd, Nat.reduceMul, Nat.reduceSub, Nat.reduceBEq, Nat.reduceEqDiff, Nat.reduceLeDiff, Nat.reduceLT, Nat.reduceBneDiff, Int.reduceAdd, Int.cast_ofNat_Int, Int.toNat_natCast, Int.reduceLE, Int.reduceLT, Int.reduceToNat, Int.reduceEq, ↓reduceIte, i0, i3, i7, i9, d, c1, c2, c3, c4, wg, wg0, b0, b1, b2, b3, b4, b5, b6, b7, a1, r3a, r3, zt, ev_side, hb, hw1, c5, c6, ha, c7, hw3]
          exact ⟨k, by omega, by omega, lid, lv, lm, fid', _, _, nn, _, _, inv3, rfl⟩
    · have ef : (((N (pth a (k + 1) ++ [false]) : Nat) : Int) == 0 && (((N (pth a (k + 1) ++ [true]) : Nat) : Int) == 0 && (T (pth a (k + 1)) == 0))) = false := by
        rw [Bool.eq_false_iff]
        intro h
        simp only [Bool.and_eq_true, beq_iff_eq] at h
        exact hemp ⟨by omega, by omega, h.2.2⟩
      simp only [f31b1, go_sem, Nat.reduceAdd, Nat.reduceMul, Nat.reduceSub, Nat.reduceBEq, Nat.reduceEqDiff, Nat.reduceLeDiff, Nat.reduceLT, Nat.reduceBneDiff, Int.reduceAdd, Int.cast_ofNat_Int, Int.toNat_natCast, Int.reduceLE, Int.reduceLT, Int.reduceToNat, Int.reduceEq, ↓reduceIte, i0, i3, i7, i9, d, c1, c2, c3, c4, wg, b0, b1, b2, b3, r3a, r3, ef]
      refine g _ _ (k + 1) lid lv lm fid fv lc nn fr N hm ⟨hp, rep, box, way, kept, rfl, hfid, rfl, nodes⟩ (Or.inr ?_)
      by_cases h3 : T (pth a (k + 1)) = 0
      · right
        by_cases h1 : N (pth a (k + 1) ++ [false]) = 0
        · exact ⟨true, fun h2 => hemp ⟨h1, h2, h3⟩⟩
        · exact ⟨false, h1⟩
      · exact Or.inl h3

theorem ev_Drop_bad (hp : Hp B H tid w many lid lv lm fid fv lc nn fr) (a : Adr) (n : Int) (hr : rightP w a n = false) :
    ∃ L, ev (PX hook) lim 31 [.ptr tid 0 0, .agg [u64 (hi a), u64 (lo a), .int .i64 n]] H = some (.int .i64 1, H ++ L) := by
  refine ⟨[.rw 0 3 [u64 (hi a), u64 (lo a), .int .i64 n]], ev_raw _ (PF t31) rfl rfl ?_⟩
  have c1 := fun L => Heap.cells_of (hp.app L).top
  simp only [f31, go_sem, Nat.reduceAdd, Nat.reduceMul, Nat.reduceSub, Nat.reduceBEq, Nat.reduceEqDiff, Nat.reduceLeDiff, Nat.reduceLT, Nat.reduceBneDiff, Int.reduceAdd, Int.cast_ofNat_Int, Int.toNat_natCast, Int.reduceLE, Int.reduceLT, Int.reduceToNat, Int.reduceEq, ↓reduceIte, c1, ev_Right, hr]
theorem ev_Drop_absent (hp : Hp B H tid w many lid lv lm fid fv lc nn fr) (r : Rep lc nn fr N T) (hB : lim ≤ B) (a : Adr) (n : Int) (hr : rightP w a n = true) (ht : T (pth a n.toNat) = 0) :
    ∃ L, ev (PX hook) lim 31 [.ptr tid 0 0, .agg [u64 (hi a), u64 (lo a), .int .i64 n]] H = some (.int .i64 2, H ++ L) := by
  obtain ⟨cs, h4, hput, hg⟩ := getV_tup w T a n
  refine ⟨[.rw 0 3 [u64 (hi a), u64 (lo a), .int .i64 n], .rw 0 4 cs], ev_raw _ (PF t31) rfl rfl ?_⟩
  have hlt := Heap.lt_of hp.top
  have hb1 := hp.b1
  have hll : lim ≤ H.length := by omega
  have c1 := fun L => Heap.cells_of (hp.app L).top
  have eg := fun L => ev_Get (hook := hook) (lim := lim) ((hp.sees r).more L) a n
  have z : (rightP w a n && decide (T (pth a n.toNat) ≠ 0)) = false := by simp [ht]
  rw [z] at hg
  simp only [f31, go_sem, Nat.reduceAdd, Nat.reduceMul, Nat.reduceSub, Nat.reduceBEq, Nat.reduceEqDiff, Nat.reduceLeDiff, Nat.reduceLT, Nat.reduceBneDiff, Int.reduceAdd, Int.cast_ofNat_Int, Int.toNat_natCast, Int.reduceLE, Int.reduceLT, Int.reduceToNat, Int.reduceEq, ↓reduceIte, c1, ev_Right, hr, eg, hg, h4, hput, hll]
theorem ev_Drop_ok (hp : Hp B H tid w many lid lv lm fid fv lc nn fr) (r : Rep lc nn fr N T) (hB : lim ≤ B) (a : Adr) (n : Int) (hr : rightP w a n = true) (ht : T (pth a n.toNat) ≠ 0) (hm0 : 1 ≤ many ∧ many ≤ 256) :
    ∃ (H' : Heap) (k lid' lv' : Nat) (lm' : Bool) (fid' : Nat) (fv' : AV) (lc' : List AV) (nn' : Nat) (fr' : List Nat) (N' : List Bool → Nat),
      ev (PX hook) lim 31 [.ptr tid 0 0, .agg [u64 (hi a), u64 (lo a), .int .i64 n]] H = some (.int .i64 0, H') ∧
      Hp B H' tid w (many - 1) lid' lv' lm' fid' fv' lc' nn' fr' ∧ Rep lc' nn' fr' N' (fun q => if q = pth a n.toNat then 0 else T q) ∧
      Kept (own tid lid fid) H H' ∧ lid' = lid ∧ (fid' = fid ∨ H.length ≤ fid') ∧ nn' = nn ∧ k ≤ n.toNat ∧ (∀ q, N' q = if k < q.length ∧ q <+: pth a n.toNat then 0 else N q) ∧
      (k = 0 ∨ (if pth a k = pth a n.toNat then 0 else T (pth a k)) ≠ 0 ∨ ∃ c, N' (pth a k ++ [c]) ≠ 0) := by
  obtain ⟨cs, h4, hput, hg⟩ := getV_tup w T a n
  have hrp := (rightP_iff w a n).1 hr
  obtain ⟨k, rfl⟩ : ∃ k : Nat, n = (k : Int) := ⟨n.toNat, by omega⟩
  rw [Int.toNat_natCast] at *
  have hk : k ≤ 128 := by omega
  have htt := Heap.lt_of hp.top
  have hll := Heap.lt_of hp.nod
  have hb1 := hp.b1
  have hb2 := hp.b2
  have hfl : fid < H.length := by
    rcases hp.fre with ⟨_, _, h⟩ | ⟨fver, fl, fc, _, h2, _⟩
    · omega
    · exact Heap.lt_of h2
  have hlim : lim ≤ H.length := by omega
  have c1 := fun L => Heap.cells_of (hp.app L).top
  have eg := fun L => ev_Get (hook := hook) (lim := lim) ((hp.sees r).more L) a (k : Int)
  have z : (rightP w a (k : Int) && decide (T (pth a k) ≠ 0)) = true := by simp [ht, hr]
  rw [z] at hg
  have hN : N (pth a k) ≠ 0 := fun g => ht (r.off _ g)
  have hex : ∀ j, j ≤ k → N (pth a j) ≠ 0 := fun j hj g => hN (down_pth r a j k hj g)
  suffices hs : EV (PX hook) lim 31 [.ptr tid 0 0, .agg [u64 (hi a), u64 (lo a), .int .i64 (k : Int)]] H fun v H' =>
      ∃ (j lid' lv' : Nat) (lm' : Bool) (fid' : Nat) (fv' : AV) (lc' : List AV) (nn' : Nat) (fr' : List Nat) (N' : List Bool → Nat), v = .int .i64 0 ∧
      Hp B H' tid w (many - 1) lid' lv' lm' fid' fv' lc' nn' fr' ∧ Rep lc' nn' fr' N' (fun q => if q = pth a k then 0 else T q) ∧
      Kept (own tid lid fid) H H' ∧ lid' = lid ∧ (fid' = fid ∨ H.length ≤ fid') ∧ nn' = nn ∧ j ≤ k ∧ (∀ q, N' q = if j < q.length ∧ q <+: pth a k then 0 else N q) ∧
      (j = 0 ∨ (if pth a j = pth a k then 0 else T (pth a j)) ≠ 0 ∨ ∃ c, N' (pth a j ++ [c]) ≠ 0) by
    rw [EV_iff] at hs
    obtain ⟨v, H', h1, j, lid', lv', lm', fid', fv', lc', nn', fr', N', rfl, h2⟩ := hs
    exact ⟨H', j, lid', lv', lm', fid', fv', lc', nn', fr', N', h1, h2⟩
  rw [EV_raw _ (PF t31) rfl rfl]
  simp only [f31, go_sem, Nat.reduceAdd, Nat.reduceMul, Nat.reduceSub, Nat.reduceBEq, Nat.reduceEqDiff, Nat.reduceLeDiff, Nat.reduceLT, Nat.reduceBneDiff, Int.reduceAdd, Int.cast_ofNat_Int, Int.toNat_natCast, Int.reduceLE, Int.reduceLT, Int.reduceToNat, Int.reduceEq, ↓reduceIte, c1, ev_Right, hr, eg, hg, h4, hput, hlim]
  have hway : (H ++ [Blk.rw 0 3 [u64 (hi a), u64 (lo a), .int .i64 (k : Int)], .rw 0 4 cs, .rw 0 1 [.int .i64 1]])[H.length + 2]? = some (.rw 0 1 [.int .i64 1]) := by
    rw [List.getElem?_append_right (Nat.le_add_right _ _), Nat.add_sub_cancel_left]; rfl
  refine way_loop B (H ++ [.rw 0 3 [u64 (hi a), u64 (lo a), .int .i64 (k : Int)], .rw 0 4 cs, .rw 0 1 [.int .i64 1]]) a k H.length (H.length + 2) ?_ hk (by simp) (by omega) (hp.app _) r (by omega) (by omega) (by omega) (by simp) hway ?_ ?_ ?_ ?_ ?_ ?_
  · omega
  all_goals (try simp only [go_sem, Nat.reduceAdd, Nat.reduceMul, Nat.reduceSub, Nat.reduceBEq, Nat.reduceEqDiff, Nat.reduceLeDiff, Nat.reduceLT, Nat.reduceBneDiff, Int.reduceAdd, Int.cast_ofNat_Int, Int.toNat_natCast, Int.reduceLE, Int.reduceLT, Int.reduceToNat, Int.reduceEq, ↓reduceIte])
  intro e' H' id ver l kept way hid i0 i3 i7
  have hp1 := (hp.app [.rw 0 3 [u64 (hi a), u64 (lo a), .int .i64 (k : Int)], .rw 0 4 cs, .rw 0 1 [.int .i64 1]]).keep kept (by simp; omega) (by simp; omega) (by simp; omega)
  have box1 : H'[H.length]? = some (.rw 0 3 [u64 (hi a), u64 (lo a), .int .i64 (k : Int)]) := kept.at (by simp) (by simp)
  have hlen' : H.length + 3 ≤ H'.length := by have := kept.1; simpa using this
  have hid' : H.length + 2 ≤ id := by
    rcases hid with h | h <;> omega
  have hidl := Heap.lt_of way
  have wg := wayC_get N a k k (Nat.le_refl _)
  have hlt := r.lt (pth a k)
  have hlc := hp1.len
  obtain ⟨H1, hw1, nod1, hk1, hl1⟩ := Heap.write_ex (lim := lim) (o := N (pth a k) * 3 + 2) (vs := [.int .i64 0]) hp1.nod (by omega) (by simp only [List.length_cons, List.length_nil]; omega)
  simp only [putCells] at nod1
  have top1 := hp1.top
  rw [← hk1 _ (fun g => hp1.ne g.symm)] at top1
  obtain ⟨H2, hw2, top2, hk2, hl2⟩ := Heap.write_ex (lim := lim) (o := 1) (vs := [.int .i64 (many - 1)]) top1 (by omega) (by simp)
  simp only [go_sem, Nat.reduceAdd, Nat.reduceMul, Nat.reduceSub, Nat.reduceBEq, Nat.reduceEqDiff, Nat.reduceLeDiff, Nat.reduceLT, Nat.reduceBneDiff, Int.reduceAdd, Int.cast_ofNat_Int, Int.toNat_natCast, Int.reduceLE, Int.reduceLT, Int.reduceToNat, Int.reduceEq, ↓reduceIte] at top2
  have cA := Heap.cells_of hp1.top
  have cB := Heap.cells_of hp1.nod
  have cC := Heap.cells_of box1
  have cD := Heap.cells_of way
  have cE := Heap.cells_of top1
  have box2 : H2[H.length]? = some (.rw 0 3 [u64 (hi a), u64 (lo a), .int .i64 (k : Int)]) := by rw [hk2 _ (by omega), hk1 _ (by omega)]; exact box1
  have cF := Heap.cells_of box2
  have cG := Heap.cells_of (show H1[H.length]? = _ by rw [hk1 _ (by omega)]; exact box1)
  have a1 : IntKind.wrap .i64 (many - 1) = many - 1 := by rw [wrap_i64] <;> omega
  have b0 : (0 : Int) ≤ (k : Int) := by omega
  have b1 : (k : Int) < ((k + 1 : Nat) : Int) := by omega
  have b2 : (0 : Int) ≤ (N (pth a k) : Int) := by omega
  have b3 : (N (pth a k) : Int) < (nn : Int) := by omega
  simp only [go_sem, Nat.reduceAdd, Nat.reduceMul, Nat.reduceSub, Nat.reduceBEq, Nat.reduceEqDiff, Nat.reduceLeDiff, Nat.reduceLT, Nat.reduceBneDiff, Int.reduceAdd, Int.cast_ofNat_Int, Int.toNat_natCast, Int.reduceLE, Int.reduceLT, Int.reduceToNat, Int.reduceEq, ↓reduceIte, i0, i3, i7, cA, cB, cC, cD, cE, cF, cG, wg, b0, b1, b2, b3, a1, hw1, hw2]
  have kept2 : Kept (own tid lid fid) H' H2 := by
    refine ⟨by omega, fun i hi hm => ?_⟩
    simp only [own, List.mem_cons, List.not_mem_nil, or_false, not_or] at hm
    rw [hk2 i hm.1, hk1 i hm.2.1]
  have inv : DropInv B H' a k tid w (many - 1) lid fid nn N (fun q => if q = pth a k then 0 else T q) H.length id ver k H2 lid lv lm fid fv (lc.set (N (pth a k) * 3 + 2) (.int .i64 0)) nn fr N := by
    refine ⟨⟨top2, by rw [hk2 _ hp1.ne]; exact nod1, by rw [List.length_set]; exact hlc, hp1.fre.keep fun i _ h1 h2 => by rw [hk2 i h1, hk1 i h2], hp.b1, hp.b2, hp.ne, hp.small⟩, r.setAct _ hN 0, box2, by rw [hk2 _ (by omega), hk1 _ (by omega)]; exact way, kept2, rfl, Or.inl rfl, rfl, fun q => ?_⟩
    rw [if_neg]
    rintro ⟨h1, h2⟩
    have := h2.length_le
    rw [pth_length] at this; omega
  refine drop_loop B H' a k tid w (many - 1) lid fid nn N (fun q => if q = pth a k then 0 else T q) H.length id ver l hB hk (by omega) (by omega) (by omega) (by omega) hidl (by omega) (by omega) (by omega) hex inv ?_ ?_ ?_ ?_ ?_
  all_goals (try simp only [go_sem, Nat.reduceAdd, Nat.reduceMul, Nat.reduceSub, Nat.reduceBEq, Nat.reduceEqDiff, Nat.reduceLeDiff, Nat.reduceLT, Nat.reduceBneDiff, Int.reduceAdd, Int.cast_ofNat_Int, Int.toNat_natCast, Int.reduceLE, Int.reduceLT, Int.reduceToNat, Int.reduceEq, ↓reduceIte, i0, i3, i7])
  intro e2 H3 j lid3 lv3 lm3 fid3 fv3 lc3 nn3 fr3 N3 hj inv3 hlast
  obtain ⟨hp3, rep3, _, _, kept3, hlid3, hfid3, hnn3, nodes3⟩ := inv3
  (try simp only [go_sem, Nat.reduceAdd, Nat.reduceMul, Nat.reduceSub, Nat.reduceBEq, Nat.reduceEqDiff, Nat.reduceLeDiff, Nat.reduceLT, Nat.reduceBneDiff, Int.reduceAdd, Int.cast_ofNat_Int, Int.toNat_natCast, Int.reduceLE, Int.reduceLT, Int.reduceToNat, Int.reduceEq, ↓reduceIte])
  refine ⟨j, lid3, lv3, lm3, fid3, fv3, lc3, nn3, fr3, N3, hp3, rep3, ?_, hlid3, ?_, hnn3, hj, nodes3, hlast⟩
  · have k1 : Kept (own tid lid fid) H H' := by
      refine ⟨by omega, fun i hi hm => ?_⟩
      rw [kept.2 i (by simp; omega) (by simp; omega), List.getElem?_append_left hi]
    exact k1.trans kept3 (fun i _ h => h) (fun i _ h => h)
  · rcases hfid3 with h | h
    · exact Or.inl h
    · right; omega
end Go.Proofs.Ytdapdfaejemgdaa.C
