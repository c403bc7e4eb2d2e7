/- THE CALLS OF A ROW, ON BOTH SIDES (law07.run): what it comes to. Conditions: the slice shows the calls. -/
import Derived.Test.YtdapdfaejemgdaaLbF
set_option linter.unusedVariables false
set_option linter.unusedSimpArgs false
namespace Go.AM
/-- A call. -/
structure Cl where
  k : Int
  r : Rt
def Cl.c (o : Cl) : List AV := .int .i64 o.k :: o.r.c
def rows5 : List Cl → List AV
  | [] => []
  | o :: l => o.c ++ rows5 l
theorem rows5_length (l : List Cl) : (rows5 l).length = l.length * 5 := by
  induction l with
  | nil => rfl
  | cons r l ih => simp only [rows5, List.length_append, ih, List.length_cons, Cl.c, Rt.c, List.length_nil]; omega
theorem rows5_drop (l : List Cl) (i : Nat) (r : Cl) (h : l[i]? = some r) : (rows5 l).drop (i * 5) = r.c ++ rows5 (l.drop (i + 1)) := by
  induction l generalizing i with
  | nil => simp at h
  | cons s l ih =>
    cases i with
    | zero => simp at h; subst h; rfl
    | succ i =>
      have := ih i (by simpa using h)
      rw [show (i + 1) * 5 = 5 + i * 5 by omega, ← List.drop_drop]
      exact this
theorem rows5_take (l : List Cl) (i : Nat) (r : Cl) (h : l[i]? = some r) : List.take 5 (List.drop (i * 5) (rows5 l)) = [.int .i64 r.k, u64 (hi r.r.a), u64 (lo r.r.a), .int .i64 r.r.n, .int .i64 r.r.x] := by rw [rows5_drop l i r h]; rfl
/-- The table behind calls. -/
def doAll (w : Int) : List Rt → List Cl → List Rt
  | tb, [] => tb
  | tb, o :: l => doAll w (doOp w tb (min (max o.k 0) 1) o.r).1 l
theorem doOp_len {w : Int} {l : List Rt} (hl : Okay w l) (ho : Once l) (k : Int) (r : Rt) : (doOp w l k r).1.length ≤ l.length + 1 := by
  unfold doOp
  split
  · split
    · exact Nat.le_succ _
    · split
      · exact Nat.le_succ _
      · rename_i h _
        have hr : rightR w r.a r.n r.x = true := by simpa using h
        show (rPut r l).length ≤ _
        rw [put_len hl ho hr]; split <;> omega
  · split
    · exact Nat.le_succ _
    · split
      · exact Nat.le_succ _
      · have := List.length_filter_le (fun s => !(Rt.is s r.a r.n)) l
        show (rDrop r.a r.n l).length ≤ _
        unfold rDrop; omega
end Go.AM
namespace Go.Proofs.Ytdapdfaejemgdaa.C
open Go.AM
variable {hook : Nat → Nat → List AV → Heap → Option (AV × Heap)} {lim : Nat} {H : Heap}
/-- Behind k calls. -/
structure RunSt (B : Nat) (H0 H' : Heap) (tid : Nat) (w : Int) (tb : List Rt) (tv : AV) (nb : Nat) (N : List Bool → Nat) (O : List Nat) : Prop where
  holds : Holds B H' tid w tb nb N O
  shows : Shows H' 4 tv tb.length (rows tb)
  apart : ∀ id ver off n l, tv = .sl id ver off n l → id ∉ O
  kept : Kept [] H0 H'
theorem Shows.keep {H H' : Heap} {sz : Nat} {v : AV} {n : Nat} {cs : List AV} {P : List Nat} (h : Shows H sz v n cs) (hk : Kept P H H') (ha : ∀ id ver off n l, v = .sl id ver off n l → id ∉ P) : Shows H' sz v n cs := by
  obtain ⟨h0, h1 | ⟨id, ver, l, rfl, h2⟩⟩ := h
  · exact ⟨h0, Or.inl h1⟩
  · refine ⟨h0, Or.inr ⟨id, ver, l, rfl, ?_⟩⟩
    have hid := ha _ _ _ _ _ rfl
    unfold Heap.cells at h2 ⊢
    cases hh : H[id]? with
    | none => rw [hh] at h2; cases h2
    | some b => rw [hh] at h2; rw [hk.at hh hid]; exact h2
theorem Shows.idlt {H : Heap} {sz : Nat} {n : Nat} {cs : List AV} {id ver off m : Nat} {l : Bool} (h : Shows H sz (.sl id ver off m l) n cs) : id < H.length := by
  obtain ⟨h0, ⟨_, h1⟩ | ⟨id', ver', l', h1, h2⟩⟩ := h
  · cases h1
  · cases h1
    unfold Heap.cells at h2
    cases hh : H[id]? with
    | none => rw [hh] at h2; cases h2
    | some b => exact (List.getElem?_eq_some_iff.1 hh).1
theorem run_loop (B : Nat) (H0 : Heap) (w : Int) (v : AV) (ops : List Cl) (tid : Nat) (hB : lim ≤ B) (hB0 : H0.length ≤ B) (hv : Shows H0 5 v ops.length (rows5 ops)) (hn : ops.length ≤ 14) {K : List Frm} {Q : Post} {e : Env} {H : Heap} {N : List Bool → Nat} {O : List Nat}
    (R : RunSt B H0 H tid w [] .nils 2 N O) (hO : ∀ i, i ∈ O → B ≤ i)
    (e0 : e 0 = .int .i64 w) (e7 : e 7 = .ptr tid 0 0) (e9 : e 9 = .nils) (e33 : e 33 = v) (e34 : e 34 = .int .i64 (ops.length : Int)) (e35 : e 35 = .int .i64 0)
    (g : ∀ (e' : Env) (H' : Heap) (tv : AV) N O, RunSt B H0 H' tid w (doAll w [] ops) tv (2 + 128 * ops.length) N O → (doAll w [] ops).length ≤ ops.length → e' 7 = .ptr tid 0 0 → e' 9 = tv → ON (PX hook) lim K (.exit 0) e' H' Q) :
    GO (PX hook) lim (.loop f15b0) K e H Q := by
  refine GO_loop _ (fun m e' H' => ∃ (k : Nat) (tb : List Rt) (tv : AV) (N : List Bool → Nat) (O : List Nat), k + m = ops.length ∧ doAll w [] ops = doAll w tb (ops.drop k) ∧ tb.length ≤ k ∧ RunSt B H0 H' tid w tb tv (2 + 128 * k) N O ∧
    e' 0 = .int .i64 w ∧ e' 7 = .ptr tid 0 0 ∧ e' 9 = tv ∧ e' 33 = v ∧ e' 34 = .int .i64 (ops.length : Int) ∧ e' 35 = .int .i64 (k : Int)) ?_ ops.length _ _ ⟨0, [], .nils, N, O, by omega, rfl, by simp, R, e0, e7, e9, e33, e34, e35⟩
  rintro m e' H' ⟨k, tb, tv, N, O, hk, hd, htb, R, i0, i7, i9, i33, i34, i35⟩
  cases m with
  | zero =>
    have hk' : k = ops.length := by omega
    subst hk'
    have d : decide ((ops.length : Int) < (ops.length : Int)) = false := by simp
    simp only [f15b0, go_sem, Nat.reduceAdd, Nat.reduceMul, Nat.reduceSub, Nat.reduceBEq, Nat.reduceEqDiff, Nat.reduceLeDiff, Nat.reduceLT, Nat.reduceBneDiff, Int.reduceAdd, Int.cast_ofNat_Int, Int.toNat_natCast, Int.reduceLE, Int.reduceLT, Int.reduceToNat, Int.reduceEq, ↓reduceIte, i34, i35, d]
    rw [List.drop_of_length_le (Nat.le_refl _)] at hd
    rw [hd] at g
    exact g _ _ tv N O R htb (by simp only [go_sem, Nat.reduceAdd, Nat.reduceMul, Nat.reduceSub, Nat.reduceBEq, Nat.reduceEqDiff, Nat.reduceLeDiff, Nat.reduceLT, Nat.reduceBneDiff, Int.reduceAdd, Int.cast_ofNat_Int, Int.toNat_natCast, Int.reduceLE, Int.reduceLT, Int.reduceToNat, Int.reduceEq, ↓reduceIte]; exact i7) (by simp only [go_sem, Nat.reduceAdd, Nat.reduceMul, Nat.reduceSub, Nat.reduceBEq, Nat.reduceEqDiff, Nat.reduceLeDiff, Nat.reduceLT, Nat.reduceBneDiff, Int.reduceAdd, Int.cast_ofNat_Int, Int.toNat_natCast, Int.reduceLE, Int.reduceLT, Int.reduceToNat, Int.reduceEq, ↓reduceIte]; exact i9)
  | succ m =>
    have hlt : k < ops.length := by omega
    have d : decide ((k : Int) < (ops.length : Int)) = true := by rw [decide_eq_true_eq]; omega
    have a1 : IntKind.wrap .i64 ((k : Int) + 1) = ((k + 1 : Nat) : Int) := by rw [wrap_i64] <;> omega
    obtain ⟨o, ho⟩ : ∃ o, ops[k]? = some o := ⟨ops[k], List.getElem?_eq_getElem hlt⟩
    have hdk : ops.drop k = o :: ops.drop (k + 1) := by
      rw [List.drop_eq_getElem_cons hlt]
      rw [List.getElem?_eq_getElem hlt] at ho
      cases ho; rfl
    rw [hdk, doAll] at hd
    have hv' := Shows.keep hv R.kept (fun _ _ _ _ _ _ h => by simp at h)
    obtain ⟨id, ver, hat, hcl⟩ := hv'.at hlt
    have hat' := hat []
    have hcl' := hcl []
    rw [List.append_nil] at hat' hcl'
    have t5 := rows5_take ops k o ho
    have r5 := rows5_length ops
    have l5 : k * 5 + 5 ≤ (rows5 ops).length := by omega
    obtain ⟨tv', L, hdo, hdo2⟩ := ev_Do (hook := hook) (lim := lim) w tv tb (min (max o.k 0) 1) o.r (R.shows.more [Blk.rw 0 5 [.int .i64 o.k, u64 (hi o.r.a), u64 (lo o.r.a), .int .i64 o.r.n, .int .i64 o.r.x]]) (by omega)
    rw [List.append_assoc, List.singleton_append] at hdo
    have H2h : Holds B (H' ++ Blk.rw 0 5 [.int .i64 o.k, u64 (hi o.r.a), u64 (lo o.r.a), .int .i64 o.r.n, .int .i64 o.r.x] :: L) tid w tb (2 + 128 * k) N O := R.holds.more _
    have hlenO := R.holds.st.lt
    have hll0 : lim ≤ H'.length := by
      obtain ⟨lid, lv, lm, fid, fv, lc, nn, fr, hp, _⟩ := R.holds.st.ex
      have h1 := Heap.lt_of hp.top
      have h2 := hp.b1
      omega
    have keptZ : ∀ H'' : Heap, Kept O (H' ++ Blk.rw 0 5 [.int .i64 o.k, u64 (hi o.r.a), u64 (lo o.r.a), .int .i64 o.r.n, .int .i64 o.r.x] :: L) H'' → Kept [] H0 H'' := fun H'' hk =>
      (R.kept.trans (Kept.app [] _ _) (fun _ _ g => g) (fun _ _ g => g)).trans hk (fun i _ g => g) (fun i hi g => by have := R.holds.st.ge i g; omega)
    -- what the new table's slice is, behind both
    have tvfin : ∀ (H'' : Heap) (O' : List Nat), Kept O (H' ++ Blk.rw 0 5 [.int .i64 o.k, u64 (hi o.r.a), u64 (lo o.r.a), .int .i64 o.r.n, .int .i64 o.r.x] :: L) H'' → (∀ i, i ∈ O' → i ∈ O ∨ (H' ++ Blk.rw 0 5 [.int .i64 o.k, u64 (hi o.r.a), u64 (lo o.r.a), .int .i64 o.r.n, .int .i64 o.r.x] :: L).length ≤ i) →
        Shows H'' 4 tv' (doOp w tb (min (max o.k 0) 1) o.r).1.length (rows (doOp w tb (min (max o.k 0) 1) o.r).1) ∧ (∀ id ver off n l, tv' = .sl id ver off n l → id ∉ O') := by
      intro H'' O' hk hO'
      rcases hdo2 with ⟨rfl, rfl, e⟩ | hg
      · rw [e]
        refine ⟨Shows.keep (R.shows.more _) hk R.apart, fun id ver off n l hs hm => ?_⟩
        have hsh := R.shows
        rw [hs] at hsh
        have hid := Shows.idlt hsh
        rcases hO' id hm with h | h
        · exact R.apart _ _ _ _ _ hs h
        · simp at h; omega
      · have hsh := Grown.shows hg
        rw [List.append_assoc, List.singleton_append] at hsh
        have hap : ∀ id ver off n l, tv' = .sl id ver off n l → H'.length ≤ id := by
          intro id ver off n l hs
          obtain ⟨_, ⟨_, h⟩ | ⟨id', ver', h1, h2, _⟩⟩ := hg
          · rw [h] at hs; cases hs
          · rw [h2] at hs; cases hs
            simp at h1; omega
        refine ⟨Shows.keep hsh hk fun id ver off n l hs hm => ?_, fun id ver off n l hs hm => ?_⟩
        · have := hlenO id hm
          have := hap _ _ _ _ _ hs
          omega
        · have h1 := hap _ _ _ _ _ hs
          rw [hs] at hsh
          have hid := Shows.idlt hsh
          rcases hO' id hm with h | h
          · have := hlenO id h; omega
          · omega
    by_cases hk0 : o.k ≤ 0
    · have hm : min (max o.k 0) 1 = 0 := by omega
      rw [hm] at hdo tvfin
      obtain ⟨H'', N', O', hp1, hp2, hp3, hp4⟩ := both_put (hook := hook) (lim := lim) H2h hB o.r (by omega) (by omega)
      obtain ⟨tf1, tf2⟩ := tvfin H'' O' hp3 hp4
      have dk : decide (o.k ≤ 0) = true := by simp [hk0]
      have cbox : ∀ L, Heap.cells (H' ++ Blk.rw 0 5 [.int .i64 o.k, u64 (hi o.r.a), u64 (lo o.r.a), .int .i64 o.r.n, .int .i64 o.r.x] :: L) H'.length 0 = some [.int .i64 o.k, u64 (hi o.r.a), u64 (lo o.r.a), .int .i64 o.r.n, .int .i64 o.r.x] := fun L => by simp only [go_sem, Nat.reduceAdd, Nat.reduceMul, Nat.reduceSub, Nat.reduceBEq, Nat.reduceEqDiff, Nat.reduceLeDiff, Nat.reduceLT, Nat.reduceBneDiff, Int.reduceAdd, Int.cast_ofNat_Int, Int.toNat_natCast, Int.reduceLE, Int.reduceLT, Int.reduceToNat, Int.reduceEq, ↓reduceIte]
      have hll : lim ≤ H'.length := hll0
      have bb : ((doOp w tb 0 o.r).2.1 == (doOp w tb 0 o.r).2.1) = true := by simp
      have ii : ((doOp w tb 0 o.r).2.2 != (doOp w tb 0 o.r).2.2) = false := by simp
      simp only [f15b0, go_sem, Nat.reduceAdd, Nat.reduceMul, Nat.reduceSub, Nat.reduceBEq, Nat.reduceEqDiff, Nat.reduceLeDiff, Nat.reduceLT, Nat.reduceBneDiff, Int.reduceAdd, Int.cast_ofNat_Int, Int.toNat_natCast, Int.reduceLE, Int.reduceLT, Int.reduceToNat, Int.reduceEq, ↓reduceIte, i0, i7, i9, i33, i34, i35, d, a1, hat', hcl', t5, l5, hll, ev_OneR, hm, hdo, dk, hp1, bb, ii]
      have hlen1 := doOp_len R.holds.ok R.holds.once 0 o.r
      rw [hm] at hd
      refine ⟨m, by omega, k + 1, (doOp w tb 0 o.r).1, tv', N', O', by omega, hd, by omega, ⟨hp2.mono (by omega), tf1, tf2, ?_⟩, rfl, rfl⟩
      exact keptZ H'' hp3
    · have hm : min (max o.k 0) 1 = 1 := by omega
      rw [hm] at hdo tvfin
      obtain ⟨H'', N', O', hp1, hp2, hp3, hp4⟩ := both_drop (hook := hook) (lim := lim) H2h hB o.r (by omega) (k := 1) (by omega)
      obtain ⟨tf1, tf2⟩ := tvfin H'' O' hp3 hp4
      have dk : decide (o.k ≤ 0) = false := by simp; omega
      have hll : lim ≤ H'.length := hll0
      have ii : ((doOp w tb 1 o.r).2.2 != (doOp w tb 1 o.r).2.2) = false := by simp
      simp only [f15b0, go_sem, Nat.reduceAdd, Nat.reduceMul, Nat.reduceSub, Nat.reduceBEq, Nat.reduceEqDiff, Nat.reduceLeDiff, Nat.reduceLT, Nat.reduceBneDiff, Int.reduceAdd, Int.cast_ofNat_Int, Int.toNat_natCast, Int.reduceLE, Int.reduceLT, Int.reduceToNat, Int.reduceEq, ↓reduceIte, i0, i7, i9, i33, i34, i35, d, a1, hat', hcl', t5, l5, hll, ev_OneR, hm, hdo, dk, hp1, ii]
      have hlen1 := doOp_len R.holds.ok R.holds.once 1 o.r
      rw [hm] at hd
      refine ⟨m, by omega, k + 1, (doOp w tb 1 o.r).1, tv', N', O', by omega, hd, by omega, ⟨hp2.mono (by omega), tf1, tf2, ?_⟩, rfl, rfl⟩
      exact keptZ H'' hp3
theorem ev_run (w : Int) (hw : family w = true) (v : AV) (ops : List Cl) (hlim : lim ≤ H.length) (hv : Shows H 5 v ops.length (rows5 ops)) (hn : ops.length ≤ 14) :
    ∃ H' tid tv N O, ev (PX hook) lim 15 [.int .i64 w, v] H = some (.tup [.ptr tid 0 0, tv, .bool true], H') ∧ RunSt H.length H H' tid w (doAll w [] ops) tv (2 + 128 * ops.length) N O ∧ (doAll w [] ops).length ≤ ops.length := by
  obtain ⟨H1, hnew, st, k1⟩ := ev_New (hook := hook) (lim := lim) (B := H.length) (H := H) w hw (Nat.le_refl _)
  suffices hs : EV (PX hook) lim 15 [.int .i64 w, v] H fun t H' => ∃ tid tv N O, t = .tup [.ptr tid 0 0, tv, .bool true] ∧ RunSt H.length H H' tid w (doAll w [] ops) tv (2 + 128 * ops.length) N O ∧ (doAll w [] ops).length ≤ ops.length by
    rw [EV_iff] at hs
    obtain ⟨t, H', h1, tid, tv, N, O, rfl, h2⟩ := hs
    exact ⟨H', tid, tv, N, O, h1, h2⟩
  rw [EV_raw _ (PF t15) rfl rfl]
  have ht1 := st.top
  have z0 : ((0 : Int) != 0) = false := rfl
  have hv1 := Shows.keep hv k1 (fun _ _ _ _ _ _ h => by simp at h)
  have hlen := hv1.len []
  rw [List.append_nil] at hlen
  have d : decide ((14 : Int) < (ops.length : Int)) = false := by rw [decide_eq_false_iff_not]; omega
  have tt : Tight noN (fun _ => (0 : Int)) := by
    intro q hq
    unfold noN at hq
    by_cases e : q = []
    · exact Or.inl e
    · rw [if_neg e] at hq; omega
  have R : RunSt H.length H H1 (H.length + 1) w [] .nils 2 noN [H.length + 1, H.length, H.length + 1] :=
    ⟨⟨st, fun r hr => by simp at hr, List.nodup_nil, tt⟩, ⟨rfl, Or.inl ⟨rfl, rfl⟩⟩, fun _ _ _ _ _ h => (by cases h), k1⟩
  simp only [f15, go_sem, Nat.reduceAdd, Nat.reduceMul, Nat.reduceSub, Nat.reduceBEq, Nat.reduceEqDiff, Nat.reduceLeDiff, Nat.reduceLT, Nat.reduceBneDiff, Int.reduceAdd, Int.cast_ofNat_Int, Int.toNat_natCast, Int.reduceLE, Int.reduceLT, Int.reduceToNat, Int.reduceEq, ↓reduceIte, hnew, z0, ht1, hlen, d]
  refine run_loop H.length H w v ops (H.length + 1) hlim (Nat.le_refl _) hv hn R (fun i hi => by simp at hi; omega) ?_ ?_ ?_ ?_ ?_ ?_ ?_
  all_goals (try simp only [go_sem, Nat.reduceAdd, Nat.reduceMul, Nat.reduceSub, Nat.reduceBEq, Nat.reduceEqDiff, Nat.reduceLeDiff, Nat.reduceLT, Nat.reduceBneDiff, Int.reduceAdd, Int.cast_ofNat_Int, Int.toNat_natCast, Int.reduceLE, Int.reduceLT, Int.reduceToNat, Int.reduceEq, ↓reduceIte])
  intro e' H' tv N O RR hle i7 i9
  simp only [go_sem, Nat.reduceAdd, Nat.reduceMul, Nat.reduceSub, Nat.reduceBEq, Nat.reduceEqDiff, Nat.reduceLeDiff, Nat.reduceLT, Nat.reduceBneDiff, Int.reduceAdd, Int.cast_ofNat_Int, Int.toNat_natCast, Int.reduceLE, Int.reduceLT, Int.reduceToNat, Int.reduceEq, ↓reduceIte, i7, i9]
  exact ⟨_, _, N, O, rfl, RR, hle⟩
end Go.Proofs.Ytdapdfaejemgdaa.C
