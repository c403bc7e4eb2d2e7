/- THE ORDER OF CHAINS, the program's ways and writes. Conditions: the slices show what is told. -/
import Derived.Test.YtmjanbhmpbhagaaLcL
set_option linter.unusedVariables false
set_option linter.unusedSimpArgs false
namespace Go.AM
/-- A way by steps that are told. -/
def wayG (n : Nat) (nxt : Nat → Int × Option Nat) : Nat → Int → List Nat → List Nat
  | 0, _, _ => []
  | f + 1, i, way => if 0 ≤ i ∧ i < (n : Int) then match (nxt i.toNat).2 with
      | some k => way ++ [i.toNat, k]
      | none => wayG n nxt f (nxt i.toNat).1 (way ++ [i.toNat])
    else []
def nxtB (l : List Sl) (a : Nat) : Int × Option Nat := ((lowN l (a + 1) ((l[a]?).getD Sl.z).e : Int), (frees l (a + 1) (lowN l (a + 1) ((l[a]?).getD Sl.z).e)).head?)
def nxtA (l : List Sl) (a : Nat) : Int × Option Nat := ((hiN l a ((l[a]?).getD Sl.z).e : Int) - 1, (frees l (hiN l a ((l[a]?).getD Sl.z).e) a).getLast?)
theorem wayG_B (l : List Sl) : ∀ (f i : Nat) (way : List Nat), wayG l.length (nxtB l) f (i : Int) way = wayB l f i way
  | 0, i, way => rfl
  | f + 1, i, way => by
    rw [wayG, wayB]
    by_cases h : i < l.length
    · rw [if_pos ⟨by omega, by omega⟩, List.getElem?_eq_getElem h]
      simp only [nxtB, Int.toNat_natCast, List.getElem?_eq_getElem h, Option.getD_some]
      generalize (frees l (i + 1) (lowN l (i + 1) l[i].e)).head? = o
      cases o with
      | some k => rfl
      | none => exact wayG_B l f _ _
    · rw [if_neg (by omega), List.getElem?_eq_none (by omega)]
theorem wayG_A (l : List Sl) : ∀ (f i : Nat) (way : List Nat), i ≤ l.length → wayG l.length (nxtA l) f ((i : Int) - 1) way = wayA l f i way
  | 0, i, way, _ => rfl
  | f + 1, i, way, hi => by
    cases i with
    | zero => rw [wayG, if_neg (by omega)]; rfl
    | succ i =>
      rw [wayG]
      show _ = match l[i]? with
        | none => []
        | some s => match (frees l (hiN l i s.e) i).getLast? with
          | some k => way ++ [i, k]
          | none => wayA l f (hiN l i s.e) (way ++ [i])
      have e : ((i + 1 : Nat) : Int) - 1 = (i : Int) := by omega
      rw [e, if_pos ⟨by omega, by omega⟩]
      simp only [nxtA, Int.toNat_natCast, List.getElem?_eq_getElem (show i < l.length by omega), Option.getD_some]
      have := lastN_le (fun s => s.ok && s.e.above l[i].e) l i
      generalize (frees l (hiN l i l[i].e) i).getLast? = o
      cases o with
      | some k => rfl
      | none => exact wayG_A l f _ _ (by unfold hiN; omega)
end Go.AM
namespace Go.Proofs.Ytmjanbhmpbhagaa.C
open Go.AM
variable {hook : Nat → Nat → List AV → Heap → Option (AV × Heap)} {lim : Nat} {H : Heap}
theorem ev_writes (v w : AV) (l : List Sl) (way : List Nat) (x : En) (hv : Lst Sl.c 7 H v l) (hw : Lst nC 1 H w way) (hne : way ≠ []) (hin : ∀ a ∈ way, a < l.length) (hl : way.length < 1000000) :
    ∃ v' L, ev (PX hook) lim 62 [v, w, .agg x.c] H = some (v', H ++ L) ∧ Gr Wr.c 8 H L v' (writesW l x way) := by
  suffices hs : EV (PX hook) lim 62 [v, w, .agg x.c] H fun v' H' => ∃ L, H' = H ++ L ∧ Gr Wr.c 8 H L v' (writesW l x way) by
    rw [EV_iff] at hs; obtain ⟨v', H', h1, L, rfl, h2⟩ := hs; exact ⟨v', L, h1, h2⟩
  rw [EV_own _ (PF t62) rfl (by decide)]
  have hlen := hw.len
  have hpos : 0 < way.length := by cases way with | nil => exact absurd rfl hne | cons a r => simp
  have a0 : IntKind.wrap .i64 ((way.length : Int) - 1) = ((way.length - 1 : Nat) : Int) := by rw [wrap_i64] <;> omega
  simp only [f62, go_sem, Nat.reduceAdd, Nat.reduceMul, Nat.reduceSub, Nat.reduceBEq, Nat.reduceEqDiff, Nat.reduceLeDiff, Nat.reduceLT, Nat.reduceBneDiff, Int.reduceAdd, Int.cast_ofNat_Int, Int.toNat_natCast, Int.reduceLE, Int.reduceLT, Int.reduceToNat, Int.reduceEq, ↓reduceIte, hlen, a0]
  refine GO_loop _ (fun m e H' => ∃ (i : Nat) (G : Heap) (acc : List Wr), i = m ∧ i < way.length ∧ acc.length + i < way.length ∧ Gr Wr.c 8 (H ++ [Blk.rw 0 6 x.c]) G (e 7) acc ∧ pairsW l way = acc ++ pairsW l (way.take (i + 1)) ∧ e 0 = v ∧ e 1 = w ∧ e 5 = .ptr H.length 0 0 ∧ e 8 = .int .i64 (i : Int) ∧ H' = H ++ (Blk.rw 0 6 x.c :: G)) ?_ (way.length - 1) _ _ ?_
  · rintro m e H' ⟨i, G, acc, rfl, hi, hacc, hg, hp, i0, i1, i5, i8, rfl⟩
    cases i with
    | zero =>
      obtain ⟨a, ha, _⟩ := get_of_lt hpos
      obtain ⟨id, ver, q, E⟩ := hw.at (by omega) nC_len ha
      have d : decide ((0 : Int) < ((0 : Nat) : Int)) = false := by decide
      have hfirst : way.take 1 = [a] := by
        cases way with
        | nil => exact absurd rfl hne
        | cons b r => simp at ha; subst ha; rfl
      rw [hfirst] at hp
      have hww : writesW l x way = acc ++ [⟨(a : Int), ⟨true, x⟩⟩] := by
        cases way with
        | nil => exact absurd rfl hne
        | cons b r =>
          simp at ha; subst ha
          rw [writesW, hp]; simp [pairsW]
      have z0 : ((0 : Nat) : Int) = 0 := rfl
      rw [z0] at i8
      have e1 := E.adr
      rw [z0] at e1
      obtain ⟨v', G', hpu, hg'⟩ := hg.push0 (bytes := 64) (lim := H.length) (⟨(a : Int), ⟨true, x⟩⟩ : Wr) rfl (by simp) (by omega)
      obtain ⟨v'', L', hfin, hsh⟩ := hg'.keep Wr.fl
      simp only [go_sem, Nat.reduceAdd, Nat.reduceMul, Nat.reduceSub, Nat.reduceBEq, Nat.reduceEqDiff, Nat.reduceLeDiff, Nat.reduceLT, Nat.reduceBneDiff, Int.reduceAdd, Int.cast_ofNat_Int, Int.toNat_natCast, Int.reduceLE, Int.reduceLT, Int.reduceToNat, Int.reduceEq, ↓reduceIte, show H.length + 1 + G.length = H.length + (G.length + 1) by omega] at hpu hfin
      have d' : decide ((0 : Int) < 0) = false := by decide
      simp only [f62b0, go_sem, Nat.reduceAdd, Nat.reduceMul, Nat.reduceSub, Nat.reduceBEq, Nat.reduceEqDiff, Nat.reduceLeDiff, Nat.reduceLT, Nat.reduceBneDiff, Int.reduceAdd, Int.cast_ofNat_Int, Int.toNat_natCast, Int.reduceLE, Int.reduceLT, Int.reduceToNat, Int.reduceEq, ↓reduceIte, i0, i1, i5, i8, gt_iff_lt, d', e1, E.adr, E.adr', E.cel, E.cel', E.all, E.all', E.part, E.part', E.part0, E.part0', E.one, E.one', E.one0, E.one0', hpu, hfin]
      exact ⟨L', rfl, by rw [hww]; exact hsh⟩
    | succ i =>
      obtain ⟨b, hb, _⟩ := get_of_lt hi
      obtain ⟨a, ha, _⟩ := get_of_lt (show i < way.length by omega)
      obtain ⟨id, ver, q, E⟩ := hw.at (by omega) nC_len hb
      obtain ⟨jd, wer, r, F⟩ := hw.at (by omega) nC_len ha
      obtain ⟨s, hs, _⟩ := get_of_lt (hin a (List.mem_of_getElem? ha))
      obtain ⟨kd, xer, t, K⟩ := hv.at (by omega) Sl.len hs
      have d : decide ((0 : Int) < ((i + 1 : Nat) : Int)) = true := by rw [decide_eq_true_eq]; omega
      have a1 : IntKind.wrap .i64 (((i + 1 : Nat) : Int) - 1) = (i : Int) := by rw [wrap_i64] <;> omega
      have e2 : way.take (i + 1 + 1) = way.take i ++ [a, b] := by rw [take_succ_of hb, take_succ_of ha]; simp
      rw [e2, pairsW_snoc, ← take_succ_of ha, hs, Option.getD_some] at hp
      obtain ⟨v', G', hpu, hg'⟩ := hg.push0 (bytes := 64) (lim := H.length) (⟨(b : Int), s⟩ : Wr) rfl (by simp) (by omega)
      simp only [go_sem, Nat.reduceAdd, Nat.reduceMul, Nat.reduceSub, Nat.reduceBEq, Nat.reduceEqDiff, Nat.reduceLeDiff, Nat.reduceLT, Nat.reduceBneDiff, Int.reduceAdd, Int.cast_ofNat_Int, Int.toNat_natCast, Int.reduceLE, Int.reduceLT, Int.reduceToNat, Int.reduceEq, ↓reduceIte, show H.length + 1 + G.length = H.length + (G.length + 1) by omega] at hpu
      simp only [f62b0, go_sem, Nat.reduceAdd, Nat.reduceMul, Nat.reduceSub, Nat.reduceBEq, Nat.reduceEqDiff, Nat.reduceLeDiff, Nat.reduceLT, Nat.reduceBneDiff, Int.reduceAdd, Int.cast_ofNat_Int, Int.toNat_natCast, Int.reduceLE, Int.reduceLT, Int.reduceToNat, Int.reduceEq, ↓reduceIte, i0, i1, i5, i8, gt_iff_lt, d, a1, E.adr, E.adr', E.cel, E.cel', E.all, E.all', E.part, E.part', E.part0, E.part0', E.one, E.one', E.one0, E.one0', F.adr, F.adr', F.cel, F.cel', F.all, F.all', F.part, F.part', F.part0, F.part0', F.one, F.one', F.one0, F.one0', K.adr, K.adr', K.cel, K.cel', K.all, K.all', K.part, K.part', K.part0, K.part0', K.one, K.one', K.one0, K.one0', hpu]
      exact ⟨i, by omega, i, G', acc ++ [⟨(b : Int), s⟩], rfl, by omega, by simp; omega, hg', by rw [hp]; simp, rfl, rfl⟩
  · refine ⟨way.length - 1, [], [], rfl, by omega, by simp; omega, ?_, ?_, by simp only [go_sem, Nat.reduceAdd, Nat.reduceMul, Nat.reduceSub, Nat.reduceBEq, Nat.reduceEqDiff, Nat.reduceLeDiff, Nat.reduceLT, Nat.reduceBneDiff, Int.reduceAdd, Int.cast_ofNat_Int, Int.toNat_natCast, Int.reduceLE, Int.reduceLT, Int.reduceToNat, Int.reduceEq, ↓reduceIte], by simp only [go_sem, Nat.reduceAdd, Nat.reduceMul, Nat.reduceSub, Nat.reduceBEq, Nat.reduceEqDiff, Nat.reduceLeDiff, Nat.reduceLT, Nat.reduceBneDiff, Int.reduceAdd, Int.cast_ofNat_Int, Int.toNat_natCast, Int.reduceLE, Int.reduceLT, Int.reduceToNat, Int.reduceEq, ↓reduceIte], by simp only [go_sem, Nat.reduceAdd, Nat.reduceMul, Nat.reduceSub, Nat.reduceBEq, Nat.reduceEqDiff, Nat.reduceLeDiff, Nat.reduceLT, Nat.reduceBneDiff, Int.reduceAdd, Int.cast_ofNat_Int, Int.toNat_natCast, Int.reduceLE, Int.reduceLT, Int.reduceToNat, Int.reduceEq, ↓reduceIte], by simp only [go_sem, Nat.reduceAdd, Nat.reduceMul, Nat.reduceSub, Nat.reduceBEq, Nat.reduceEqDiff, Nat.reduceLeDiff, Nat.reduceLT, Nat.reduceBneDiff, Int.reduceAdd, Int.cast_ofNat_Int, Int.toNat_natCast, Int.reduceLE, Int.reduceLT, Int.reduceToNat, Int.reduceEq, ↓reduceIte], by simp only [go_sem, Nat.reduceAdd, Nat.reduceMul, Nat.reduceSub, Nat.reduceBEq, Nat.reduceEqDiff, Nat.reduceLeDiff, Nat.reduceLT, Nat.reduceBneDiff, Int.reduceAdd, Int.cast_ofNat_Int, Int.toNat_natCast, Int.reduceLE, Int.reduceLT, Int.reduceToNat, Int.reduceEq, ↓reduceIte]⟩
    · simp only [go_sem, Nat.reduceAdd, Nat.reduceMul, Nat.reduceSub, Nat.reduceBEq, Nat.reduceEqDiff, Nat.reduceLeDiff, Nat.reduceLT, Nat.reduceBneDiff, Int.reduceAdd, Int.cast_ofNat_Int, Int.toNat_natCast, Int.reduceLE, Int.reduceLT, Int.reduceToNat, Int.reduceEq, ↓reduceIte]; exact Gr.nil
    · rw [List.take_of_length_le (by omega)]; rfl
theorem ev_walk (v : AV) (l : List Sl) (g : Nat) (caps : List AV) (nxt : Nat → Int × Option Nat) (ok : Nat → Int → Prop) (i0 : Int) (hv : Lst Sl.c 7 H v l) (hl : l.length < 1000000)
    (hn : ∀ (L : Heap) (a : Nat), a < l.length → ev (PX hook) H.length g (.int .i64 (a : Int) :: caps) (H ++ L) = some (.tup [.int .i64 (nxt a).1, .int .i64 (optI (nxt a).2)], H ++ L))
    (h0 : ∀ i, ok 0 i → ¬ (0 ≤ i ∧ i < (l.length : Int))) (h1 : ∀ f (a : Nat), ok (f + 1) (a : Int) → a < l.length → ok f (nxt a).1) (fuel : Nat) (hok : ok fuel i0) (hfu : fuel < 2000000) :
    ∃ v' L, ev (PX hook) lim 63 [v, .int .i64 i0, .fn g caps] H = some (v', H ++ L) ∧ Gr nC 1 H L v' (wayG l.length nxt fuel i0 []) := by
  suffices hs : EV (PX hook) lim 63 [v, .int .i64 i0, .fn g caps] H fun v' H' => ∃ L, H' = H ++ L ∧ Gr nC 1 H L v' (wayG l.length nxt fuel i0 []) by
    rw [EV_iff] at hs; obtain ⟨v', H', h1, L, rfl, h2⟩ := hs; exact ⟨v', L, h1, h2⟩
  rw [EV_own _ (PF t63) rfl (by decide)]
  have hlen := hv.len
  simp only [f63, go_sem, Nat.reduceAdd, Nat.reduceMul, Nat.reduceSub, Nat.reduceBEq, Nat.reduceEqDiff, Nat.reduceLeDiff, Nat.reduceLT, Nat.reduceBneDiff, Int.reduceAdd, Int.cast_ofNat_Int, Int.toNat_natCast, Int.reduceLE, Int.reduceLT, Int.reduceToNat, Int.reduceEq, ↓reduceIte]
  refine GO_loop _ (fun m e H' => ∃ (i : Int) (G : Heap) (way : List Nat), ok m i ∧ way.length + m ≤ fuel ∧ Gr nC 1 H G (e 7) way ∧ wayG l.length nxt fuel i0 [] = wayG l.length nxt m i way ∧ e 0 = v ∧ e 1 = .int .i64 i ∧ e 2 = .fn g caps ∧ H' = H ++ G) ?_ fuel _ _ ?_
  · rintro m e H' ⟨i, G, way, hoki, hwl, hg, hw, j0, j1, j2, rfl⟩
    by_cases hr : 0 ≤ i ∧ i < (l.length : Int)
    · cases m with
      | zero => exact absurd hr (h0 i hoki)
      | succ m =>
        obtain ⟨a, rfl⟩ : ∃ a : Nat, i = (a : Int) := ⟨i.toNat, by omega⟩
        have hal : a < l.length := by omega
        have d1 : decide ((0 : Int) ≤ (a : Int)) = true := by rw [decide_eq_true_eq]; omega
        have d2 := lt_true hal
        rw [wayG, if_pos hr, Int.toNat_natCast] at hw
        obtain ⟨v', G', ha, hg'⟩ := hg.push0 (bytes := 8) (lim := H.length) a rfl (Nat.le_refl _) (by omega)
        simp only [nC] at ha
        have hna := hn G' a hal
        cases hfr : (nxt a).2 with
        | some k =>
          rw [hfr] at hw hna
          simp only [optI] at hw hna
          have d3 : decide ((0 : Int) ≤ (k : Int)) = true := by rw [decide_eq_true_eq]; omega
          obtain ⟨v'', G'', ha', hg''⟩ := hg'.push0 (bytes := 8) (lim := H.length) k rfl (Nat.le_refl _) (by simp; omega)
          obtain ⟨v3, L', hfin, hsh⟩ := hg''.keep0 nC_fl
          simp only [nC] at ha'
          simp only [f63b0, go_sem, Nat.reduceAdd, Nat.reduceMul, Nat.reduceSub, Nat.reduceBEq, Nat.reduceEqDiff, Nat.reduceLeDiff, Nat.reduceLT, Nat.reduceBneDiff, Int.reduceAdd, Int.cast_ofNat_Int, Int.toNat_natCast, Int.reduceLE, Int.reduceLT, Int.reduceToNat, Int.reduceEq, ↓reduceIte, j0, j1, j2, ge_iff_le, hlen, d1, d2, ha, hna, d3, ha', hfin]
          exact ⟨L', rfl, by rw [hw]; simpa using hsh⟩
        | none =>
          rw [hfr] at hw hna
          simp only [optI] at hw hna
          have d3 : decide ((0 : Int) ≤ -1) = false := by decide
          simp only [f63b0, go_sem, Nat.reduceAdd, Nat.reduceMul, Nat.reduceSub, Nat.reduceBEq, Nat.reduceEqDiff, Nat.reduceLeDiff, Nat.reduceLT, Nat.reduceBneDiff, Int.reduceAdd, Int.cast_ofNat_Int, Int.toNat_natCast, Int.reduceLE, Int.reduceLT, Int.reduceToNat, Int.reduceEq, ↓reduceIte, j0, j1, j2, ge_iff_le, hlen, d1, d2, ha, hna, d3]
          exact ⟨m, by omega, (nxt a).1, G', way ++ [a], h1 m a hoki hal, by simp; omega, hg', hw, rfl, rfl⟩
    · have hnil : wayG l.length nxt m i way = [] := by
        cases m with
        | zero => rfl
        | succ m => rw [wayG, if_neg hr]
      by_cases h2 : 0 ≤ i
      · have d1 : decide ((0 : Int) ≤ i) = true := by simp [h2]
        have d2 : decide (i < (l.length : Int)) = false := by rw [decide_eq_false_iff_not]; omega
        simp only [f63b0, go_sem, Nat.reduceAdd, Nat.reduceMul, Nat.reduceSub, Nat.reduceBEq, Nat.reduceEqDiff, Nat.reduceLeDiff, Nat.reduceLT, Nat.reduceBneDiff, Int.reduceAdd, Int.cast_ofNat_Int, Int.toNat_natCast, Int.reduceLE, Int.reduceLT, Int.reduceToNat, Int.reduceEq, ↓reduceIte, j0, j1, j2, ge_iff_le, hlen, d1, d2]
        exact ⟨[], by simp, by rw [hw, hnil]; exact Gr.nil⟩
      · have d1 : decide ((0 : Int) ≤ i) = false := by simp [h2]
        simp only [f63b0, go_sem, Nat.reduceAdd, Nat.reduceMul, Nat.reduceSub, Nat.reduceBEq, Nat.reduceEqDiff, Nat.reduceLeDiff, Nat.reduceLT, Nat.reduceBneDiff, Int.reduceAdd, Int.cast_ofNat_Int, Int.toNat_natCast, Int.reduceLE, Int.reduceLT, Int.reduceToNat, Int.reduceEq, ↓reduceIte, j0, j1, j2, ge_iff_le, hlen, d1]
        exact ⟨[], by simp, by rw [hw, hnil]; exact Gr.nil⟩
  · exact ⟨i0, [], [], hok, by simp, Gr.nil, rfl, by simp only [go_sem, Nat.reduceAdd, Nat.reduceMul, Nat.reduceSub, Nat.reduceBEq, Nat.reduceEqDiff, Nat.reduceLeDiff, Nat.reduceLT, Nat.reduceBneDiff, Int.reduceAdd, Int.cast_ofNat_Int, Int.toNat_natCast, Int.reduceLE, Int.reduceLT, Int.reduceToNat, Int.reduceEq, ↓reduceIte], by simp only [go_sem, Nat.reduceAdd, Nat.reduceMul, Nat.reduceSub, Nat.reduceBEq, Nat.reduceEqDiff, Nat.reduceLeDiff, Nat.reduceLT, Nat.reduceBneDiff, Int.reduceAdd, Int.cast_ofNat_Int, Int.toNat_natCast, Int.reduceLE, Int.reduceLT, Int.reduceToNat, Int.reduceEq, ↓reduceIte], by simp only [go_sem, Nat.reduceAdd, Nat.reduceMul, Nat.reduceSub, Nat.reduceBEq, Nat.reduceEqDiff, Nat.reduceLeDiff, Nat.reduceLT, Nat.reduceBneDiff, Int.reduceAdd, Int.cast_ofNat_Int, Int.toNat_natCast, Int.reduceLE, Int.reduceLT, Int.reduceToNat, Int.reduceEq, ↓reduceIte], by simp only [go_sem, Nat.reduceAdd, Nat.reduceMul, Nat.reduceSub, Nat.reduceBEq, Nat.reduceEqDiff, Nat.reduceLeDiff, Nat.reduceLT, Nat.reduceBneDiff, Int.reduceAdd, Int.cast_ofNat_Int, Int.toNat_natCast, Int.reduceLE, Int.reduceLT, Int.reduceToNat, Int.reduceEq, ↓reduceIte]⟩
theorem ev_Insert1 (v : AV) (l : List Sl) (a bid : Nat) (hv : Lst Sl.c 7 H v l) (hl : l.length < 1000000) (ha : a < l.length) (hb : ∀ L, loadV (H ++ L) false 1 (.ptr bid 0 0) = some v) :
    ev (PX hook) lim 64 [.int .i64 (a : Int), .ptr bid 0 0] H = some (.tup [.int .i64 (nxtB l a).1, .int .i64 (optI (nxtB l a).2)], H) := by
  refine ev_own _ (PF t64) rfl (by decide) ?_
  obtain ⟨s, hs, _⟩ := get_of_lt ha
  obtain ⟨id, ver, q, E⟩ := hv.at (by omega) Sl.len hs
  have hb' : loadV H false 1 (.ptr bid 0 0) = some v := by have := hb []; rwa [List.append_nil] at this
  have a1 := wrap_succ (show a < 1000000 by omega)
  have h1 := ev_lowest (hook := hook) (lim := H.length) v l (a + 1) s.e hv hl (by omega)
  have hle : lowN l (a + 1) s.e ≤ l.length := firstN_le _ _ _ _ (by omega)
  have h2 := ev_empty (hook := hook) (lim := H.length) v l (a + 1) (lowN l (a + 1) s.e) false hv hl hle (by omega)
  simp only [Bool.false_eq_true, if_false] at h2
  simp only [nxtB, hs, Option.getD_some]
  simp only [f64, go_sem, Nat.reduceAdd, Nat.reduceMul, Nat.reduceSub, Nat.reduceBEq, Nat.reduceEqDiff, Nat.reduceLeDiff, Nat.reduceLT, Nat.reduceBneDiff, Int.reduceAdd, Int.cast_ofNat_Int, Int.toNat_natCast, Int.reduceLE, Int.reduceLT, Int.reduceToNat, Int.reduceEq, ↓reduceIte, hb', a1, E.adr, E.adr', E.cel, E.cel', E.all, E.all', E.part, E.part', E.part0, E.part0', E.one, E.one', E.one0, E.one0', h1, h2]
theorem ev_Insert2 (v : AV) (l : List Sl) (a bid : Nat) (hv : Lst Sl.c 7 H v l) (hl : l.length < 1000000) (ha : a < l.length) (hb : ∀ L, loadV (H ++ L) false 1 (.ptr bid 0 0) = some v) :
    ev (PX hook) lim 66 [.int .i64 (a : Int), .ptr bid 0 0] H = some (.tup [.int .i64 (nxtA l a).1, .int .i64 (optI (nxtA l a).2)], H) := by
  refine ev_own _ (PF t66) rfl (by decide) ?_
  obtain ⟨s, hs, _⟩ := get_of_lt ha
  obtain ⟨id, ver, q, E⟩ := hv.at (by omega) Sl.len hs
  have hb' : loadV H false 1 (.ptr bid 0 0) = some v := by have := hb []; rwa [List.append_nil] at this
  have h1 := ev_highest (hook := hook) (lim := H.length) v l a s.e hv hl (by omega)
  have hle : hiN l a s.e ≤ a := lastN_le _ _ _
  have a1 : IntKind.wrap .i64 ((hiN l a s.e : Int) - 1 + 1) = (hiN l a s.e : Int) := by rw [wrap_i64] <;> omega
  have h2 := ev_empty (hook := hook) (lim := H.length) v l (hiN l a s.e) a true hv hl (by omega) (by omega)
  simp only [if_true] at h2
  simp only [nxtA, hs, Option.getD_some]
  simp only [f66, go_sem, Nat.reduceAdd, Nat.reduceMul, Nat.reduceSub, Nat.reduceBEq, Nat.reduceEqDiff, Nat.reduceLeDiff, Nat.reduceLT, Nat.reduceBneDiff, Int.reduceAdd, Int.cast_ofNat_Int, Int.toNat_natCast, Int.reduceLE, Int.reduceLT, Int.reduceToNat, Int.reduceEq, ↓reduceIte, hb', a1, E.adr, E.adr', E.cel, E.cel', E.all, E.all', E.part, E.part', E.part0, E.part0', E.one, E.one', E.one0, E.one0', h1, h2]
end Go.Proofs.Ytmjanbhmpbhagaa.C
