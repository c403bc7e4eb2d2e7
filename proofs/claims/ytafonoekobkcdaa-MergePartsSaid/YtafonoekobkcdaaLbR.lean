/- ROWS OF ROUTES: the document's rib (ref06): what each function comes to. Conditions: the slices show what is told. -/
import Derived.Test.YtafonoekobkcdaaLbX
import Derived.Test.YtafonoekobkcdaaLbS
set_option linter.unusedVariables false
set_option linter.unusedSimpArgs false
namespace Go.AM
/-- A slice that shows cells, n elements of sz. -/
def Shows (H : Heap) (sz : Nat) (v : AV) (n : Nat) (cs : List AV) : Prop := cs.length = n * sz ∧ ((n = 0 ∧ v = .nils) ∨ ∃ id ver l, v = .sl id ver 0 n l ∧ H.cells id ver = some cs)
theorem Shows.more {H : Heap} {sz : Nat} {v : AV} {n : Nat} {cs : List AV} (h : Shows H sz v n cs) (L : Heap) : Shows (H ++ L) sz v n cs := by
  obtain ⟨h0, h | ⟨id, ver, l, h1, h2⟩⟩ := h
  · exact ⟨h0, Or.inl h⟩
  · exact ⟨h0, Or.inr ⟨id, ver, l, h1, Heap.cells_old h2⟩⟩
theorem Shows.len {H : Heap} {sz : Nat} {v : AV} {n : Nat} {cs : List AV} (h : Shows H sz v n cs) (L : Heap) : lenV (H ++ L) v = some (.int .i64 (n : Int)) := by
  obtain ⟨h0, ⟨rfl, rfl⟩ | ⟨id, ver, l, rfl, h2⟩⟩ := h
  · rfl
  · simp [lenV, Heap.cells_old h2]
theorem Shows.at {H : Heap} {sz : Nat} {v : AV} {n : Nat} {cs : List AV} (h : Shows H sz v n cs) {i : Nat} (hi : i < n) :
    ∃ id ver, (∀ L, iaddrSV (H ++ L) sz v (.int .i64 (i : Int)) = some (.ptr id ver (i * sz))) ∧ ∀ L, Heap.cells (H ++ L) id ver = some cs := by
  obtain ⟨h0, ⟨rfl, rfl⟩ | ⟨id, ver, l, rfl, h2⟩⟩ := h
  · omega
  · refine ⟨id, ver, fun L => ?_, fun L => Heap.cells_old h2⟩
    simp [iaddrSV, Heap.cells_old h2, hi]
theorem Grown.shows {sz : Nat} {B G : Heap} {k : Nat} {cs : List AV} {v : AV} (h : Grown sz B G k cs v) : Shows (B ++ G) sz v k cs := by
  obtain ⟨hc, h | ⟨id, ver, h1, h2, h3⟩⟩ := h
  · exact ⟨hc, Or.inl h⟩
  · exact ⟨hc, Or.inr ⟨id, ver, false, h2, by simp [Heap.cells, h3, Blk.ver, Blk.cells]⟩⟩
/-- A grown slice, behind its making, stands alone. -/
theorem Grown.keep {sz : Nat} {H L G : Heap} {k : Nat} {cs : List AV} {v : AV} (h : Grown sz (H ++ L) G k cs v) (hf : AV.flats cs = true) :
    ∃ v' L', finish .slices H.length v (H ++ (L ++ G)) = some (v', H ++ L') ∧ Grown sz H L' k cs v' := by
  obtain ⟨hc, ⟨rfl, rfl⟩ | ⟨id, ver, h1, rfl, h3⟩⟩ := h
  · exact ⟨.nils, [], by rw [finish_nils, List.append_nil], hc, Or.inl ⟨rfl, rfl⟩⟩
  · have h1' : H.length ≤ id := by simp at h1; omega
    obtain ⟨j, rfl⟩ : ∃ j, id = H.length + j := ⟨id - H.length, by omega⟩
    rw [List.append_assoc, List.getElem?_append_right (Nat.le_add_right _ _), Nat.add_sub_cancel_left] at h3
    refine ⟨.sl H.length ver 0 k false, [.rw ver sz cs], ?_, hc, Or.inr ⟨H.length, ver, Nat.le_refl _, rfl, ?_⟩⟩
    · rw [finish_keep, h3, keepB_rw, if_pos hf]
    · rw [List.getElem?_append_right (Nat.le_refl _), Nat.sub_self]; rfl
theorem Shows.old {H : Heap} {sz : Nat} {v : AV} {n : Nat} {cs : List AV} (h : Shows H sz v n cs) (L : Heap) : finish .slices H.length v (H ++ L) = some (v, H) := by
  obtain ⟨h0, ⟨rfl, rfl⟩ | ⟨id, ver, l, rfl, h2⟩⟩ := h
  · rw [finish_nils]
  · have hid : id < H.length := by
      unfold Heap.cells at h2
      cases hh : H[id]? with
      | none => rw [hh] at h2; cases h2
      | some b => exact (List.getElem?_eq_some_iff.1 hh).1
    simp [finish, keepOne, AV.flat, hid, take_tl]
theorem finish_tup3 {n0 : Nat} {v v' : AV} {H H' : Heap} (b : Bool) (k : Int) (hv : finish .slices n0 v H = some (v', H')) (ht : ∀ vs, v ≠ .tup vs) : finish .slices n0 (.tup [v, .bool b, .int .i64 k]) H = some (.tup [v', .bool b, .int .i64 k], H') := by
  have e : finish .slices n0 v H = (keepOne n0 H v (H.take n0) []).map fun x => (x.1, x.2.1) := by
    cases v <;> first | rfl | exact absurd rfl (ht _)
  rw [e, Option.map_eq_some_iff] at hv
  obtain ⟨⟨x, A, u⟩, h1, h2⟩ := hv
  simp only [Prod.mk.injEq] at h2
  obtain ⟨rfl, rfl⟩ := h2
  have kb : ∀ A u, keepOne n0 H (.bool b) A u = some (.bool b, A, u) := fun _ _ => rfl
  have ki : ∀ A u, keepOne n0 H (.int .i64 k) A u = some (.int .i64 k, A, u) := fun _ _ => rfl
  simp only [finish, keepAll, h1, kb, ki, Option.bind_some, Option.map_some]
/-- A route. -/
structure Rt where
  a : Adr
  n : Int
  x : Int
def Rt.c (r : Rt) : List AV := [u64 (hi r.a), u64 (lo r.a), .int .i64 r.n, .int .i64 r.x]
def rows : List Rt → List AV
  | [] => []
  | r :: l => r.c ++ rows l
theorem rows_length (l : List Rt) : (rows l).length = l.length * 4 := by
  induction l with
  | nil => rfl
  | cons r l ih => simp only [rows, List.length_append, ih, List.length_cons, Rt.c, List.length_nil]; omega
theorem rows_append (l m : List Rt) : rows (l ++ m) = rows l ++ rows m := by
  induction l with
  | nil => rfl
  | cons r l ih => simp only [List.cons_append, rows, ih, List.append_assoc]
theorem rows_flats (l : List Rt) : AV.flats (rows l) = true := by
  induction l with
  | nil => rfl
  | cons r l ih => exact ih
theorem rows_drop (l : List Rt) (i : Nat) (r : Rt) (h : l[i]? = some r) : (rows l).drop (i * 4) = r.c ++ rows (l.drop (i + 1)) := by
  induction l generalizing i with
  | nil => simp at h
  | cons s l ih =>
    cases i with
    | zero => simp at h; subst h; rfl
    | succ i =>
      have := ih i (by simpa using h)
      rw [show (i + 1) * 4 = 4 + i * 4 by omega, ← List.drop_drop]
      exact this
theorem rows_take (l : List Rt) (i : Nat) (r : Rt) (h : l[i]? = some r) : List.take 4 (List.drop (i * 4) (rows l)) = r.c := by rw [rows_drop l i r h]; rfl
theorem rows_take3 (l : List Rt) (i : Nat) (r : Rt) (h : l[i]? = some r) : List.take 3 (List.drop (i * 4) (rows l)) = [u64 (hi r.a), u64 (lo r.a), .int .i64 r.n] := by rw [rows_drop l i r h]; rfl
theorem rows_get (l : List Rt) (i : Nat) (r : Rt) (h : l[i]? = some r) (k : Nat) (hk : k < 4) : (rows l)[i * 4 + k]? = r.c[k]? := by
  rw [← List.getElem?_drop, rows_drop l i r h, List.getElem?_append_left (by exact hk)]
/-- The same prefix. -/
def Rt.is (r : Rt) (a : Adr) (n : Int) : Bool := (r.a == a) && (r.n == n)
def rFind (a : Adr) (n : Int) : List Rt → Option Rt
  | [] => none
  | r :: l => if r.is a n then some r else rFind a n l
def rtV : Option Rt → AV
  | some r => .tup [.agg r.c, .bool true]
  | none => .tup [.agg [u64 0#64, u64 0#64, .int .i64 0, .int .i64 0], .bool false]
def rDrop (a : Adr) (n : Int) (l : List Rt) : List Rt := l.filter fun r => !(r.is a n)
def rIns (r : Rt) : List Rt → List Rt
  | [] => [r]
  | s :: l => if 0 < cmpP s.a s.n r.a r.n then r :: s :: l else s :: rIns r l
def rPut (r : Rt) (l : List Rt) : List Rt := rIns r (rDrop r.a r.n l)
def bestAt (l : List Rt) (a : Adr) (m : Int) : Option Rt := l.find? fun r => (r.n == m) && matchP r.a r.n a
def bestFrom (l : List Rt) (a : Adr) : Nat → Option Rt
  | 0 => bestAt l a 0
  | k + 1 => match bestAt l a ((k + 1 : Nat) : Int) with
    | some r => some r
    | none => bestFrom l a k
def rShort (n : Int) (l : List Rt) : List Rt := l.filter fun r => decide (r.n < n)
end Go.AM
namespace Go.Proofs.Ytafonoekobkcdaa.C
open Go.AM
variable {hook : Nat → Nat → List AV → Heap → Option (AV × Heap)} {lim : Nat} {H : Heap}
theorem drop_succ_filter (a : Adr) (n : Int) (l : List Rt) (k : Nat) (r : Rt) (h : l.drop k = r :: l.drop (k + 1)) : rDrop a n (l.drop k) = (if r.is a n then [] else [r]) ++ rDrop a n (l.drop (k + 1)) := by
  rw [h]; unfold rDrop; rw [List.filter_cons]
  cases r.is a n <;> simp
theorem ev_rDrop (v : AV) (l : List Rt) (a : Adr) (n : Int) (hv : Shows H 4 v l.length (rows l)) (hl : l.length < 1000000) :
    ∃ v' L, ev (PX hook) lim 74 [v, .agg [u64 (hi a), u64 (lo a), .int .i64 n]] H = some (v', H ++ L) ∧ Grown 4 H L (rDrop a n l).length (rows (rDrop a n l)) v' := by
  suffices hs : EV (PX hook) lim 74 [v, .agg [u64 (hi a), u64 (lo a), .int .i64 n]] H fun v' H' => ∃ L, H' = H ++ L ∧ Grown 4 H L (rDrop a n l).length (rows (rDrop a n l)) v' by
    rw [EV_iff] at hs
    obtain ⟨v', H', h1, L, rfl, h2⟩ := hs
    exact ⟨v', L, h1, h2⟩
  rw [EV_own _ (PF t74) rfl (by decide)]
  have hlen := fun L L' => hv.len (L ++ L')
  have hrl := rows_length l
  simp only [f74, go_sem, Nat.reduceAdd, Nat.reduceMul, Nat.reduceSub, Nat.reduceBEq, Nat.reduceEqDiff, Nat.reduceLeDiff, Nat.reduceLT, Nat.reduceBneDiff, Int.reduceAdd, Int.cast_ofNat_Int, Int.toNat_natCast, Int.reduceLE, Int.reduceLT, Int.reduceToNat, Int.reduceEq, ↓reduceIte]
  refine GO_loop _ (fun m e H' => ∃ (k : Nat) (G : Heap), k + m = l.length ∧ Grown 4 (H ++ [Blk.rw 0 3 [u64 (hi a), u64 (lo a), .int .i64 n]]) G (rDrop a n (l.take k)).length (rows (rDrop a n (l.take k))) (e 5) ∧ e 0 = v ∧ e 3 = .ptr H.length 0 0 ∧ e 6 = .int .i64 (k : Int) ∧ H' = (H ++ [Blk.rw 0 3 [u64 (hi a), u64 (lo a), .int .i64 n]]) ++ G) ?_ l.length _ _ ?_
  · rintro m e H' ⟨k, G, hk, hg, i0, i3, i6, rfl⟩
    have hlen1 := hv.len
    cases m with
    | zero =>
      have hk' : k = l.length := by omega
      subst hk'
      have d : decide ((l.length : Int) < (l.length : Int)) = false := by simp
      rw [List.take_length] at hg
      obtain ⟨v', L', hfin, hsh⟩ := hg.keep (rows_flats _)
      simp only [go_sem, Nat.reduceAdd, Nat.reduceMul, Nat.reduceSub, Nat.reduceBEq, Nat.reduceEqDiff, Nat.reduceLeDiff, Nat.reduceLT, Nat.reduceBneDiff, Int.reduceAdd, Int.cast_ofNat_Int, Int.toNat_natCast, Int.reduceLE, Int.reduceLT, Int.reduceToNat, Int.reduceEq, ↓reduceIte] at hfin
      simp only [f74b0, go_sem, Nat.reduceAdd, Nat.reduceMul, Nat.reduceSub, Nat.reduceBEq, Nat.reduceEqDiff, Nat.reduceLeDiff, Nat.reduceLT, Nat.reduceBneDiff, Int.reduceAdd, Int.cast_ofNat_Int, Int.toNat_natCast, Int.reduceLE, Int.reduceLT, Int.reduceToNat, Int.reduceEq, ↓reduceIte, i0, i3, i6, hlen1, d, hfin]
      exact ⟨L', rfl, hsh⟩
    | succ m =>
      have d : decide ((k : Int) < (l.length : Int)) = true := by rw [decide_eq_true_eq]; omega
      have a1 : IntKind.wrap .i64 ((k : Int) + 1) = ((k + 1 : Nat) : Int) := by rw [wrap_i64] <;> omega
      obtain ⟨r, hr, hd⟩ := get_of_lt (show k < l.length by omega)
      obtain ⟨id, ver, hat, hcl⟩ := hv.at (show k < l.length by omega)
      have t3 := rows_take3 l k r hr
      have t4 := rows_take l k r hr
      have l3 : k * 4 + 3 ≤ (rows l).length := by omega
      have l4 : k * 4 + 4 ≤ (rows l).length := by omega
      have eqa := beqA r.a a
      have tk := take_succ_of hr
      have hdl : (rDrop a n (l.take k)).length ≤ k := by
        have := List.length_filter_le (fun r => !(Rt.is r a n)) (l.take k)
        rw [List.length_take] at this
        unfold rDrop; omega
      cases hb : r.is a n
      · have hb' : ((hi r.a == hi a) && ((lo r.a == lo a) && (r.n == n))) = false := by
          rw [← Bool.and_assoc, eqa]; exact hb
        have e1 : rDrop a n (l.take (k + 1)) = rDrop a n (l.take k) ++ [r] := by rw [tk]; unfold rDrop; rw [List.filter_append]; simp [hb]
        obtain ⟨v', G', ha, hg'⟩ := hg.push (bytes := 32) (lim := H.length) r.c rfl (by simp) (by omega)
        simp only [go_sem, Nat.reduceAdd, Nat.reduceMul, Nat.reduceSub, Nat.reduceBEq, Nat.reduceEqDiff, Nat.reduceLeDiff, Nat.reduceLT, Nat.reduceBneDiff, Int.reduceAdd, Int.cast_ofNat_Int, Int.toNat_natCast, Int.reduceLE, Int.reduceLT, Int.reduceToNat, Int.reduceEq, ↓reduceIte, Rt.c, show H.length + 1 + G.length = H.length + (G.length + 1) by omega] at ha
        simp only [f74b0, go_sem, Nat.reduceAdd, Nat.reduceMul, Nat.reduceSub, Nat.reduceBEq, Nat.reduceEqDiff, Nat.reduceLeDiff, Nat.reduceLT, Nat.reduceBneDiff, Int.reduceAdd, Int.cast_ofNat_Int, Int.toNat_natCast, Int.reduceLE, Int.reduceLT, Int.reduceToNat, Int.reduceEq, ↓reduceIte, i0, i3, i6, hlen1, d, a1, hat, hcl, t3, l3, t4, l4, hb', Rt.c, ha]
        refine ⟨m, by omega, k + 1, G', by omega, ?_, rfl, rfl⟩
        rw [e1, List.length_append, rows_append]
        simpa [rows] using hg'
      · have hb' : ((hi r.a == hi a) && ((lo r.a == lo a) && (r.n == n))) = true := by
          rw [← Bool.and_assoc, eqa]; exact hb
        have e1 : rDrop a n (l.take (k + 1)) = rDrop a n (l.take k) := by rw [tk]; unfold rDrop; rw [List.filter_append]; simp [hb]
        simp only [f74b0, go_sem, Nat.reduceAdd, Nat.reduceMul, Nat.reduceSub, Nat.reduceBEq, Nat.reduceEqDiff, Nat.reduceLeDiff, Nat.reduceLT, Nat.reduceBneDiff, Int.reduceAdd, Int.cast_ofNat_Int, Int.toNat_natCast, Int.reduceLE, Int.reduceLT, Int.reduceToNat, Int.reduceEq, ↓reduceIte, i0, i3, i6, hlen1, d, a1, hat, hcl, t3, l3, hb']
        exact ⟨m, by omega, k + 1, G, by omega, by rw [e1]; exact hg, rfl, rfl⟩
  · refine ⟨0, [], by omega, ?_, by simp only [go_sem, Nat.reduceAdd, Nat.reduceMul, Nat.reduceSub, Nat.reduceBEq, Nat.reduceEqDiff, Nat.reduceLeDiff, Nat.reduceLT, Nat.reduceBneDiff, Int.reduceAdd, Int.cast_ofNat_Int, Int.toNat_natCast, Int.reduceLE, Int.reduceLT, Int.reduceToNat, Int.reduceEq, ↓reduceIte], by simp only [go_sem, Nat.reduceAdd, Nat.reduceMul, Nat.reduceSub, Nat.reduceBEq, Nat.reduceEqDiff, Nat.reduceLeDiff, Nat.reduceLT, Nat.reduceBneDiff, Int.reduceAdd, Int.cast_ofNat_Int, Int.toNat_natCast, Int.reduceLE, Int.reduceLT, Int.reduceToNat, Int.reduceEq, ↓reduceIte], by simp only [go_sem, Nat.reduceAdd, Nat.reduceMul, Nat.reduceSub, Nat.reduceBEq, Nat.reduceEqDiff, Nat.reduceLeDiff, Nat.reduceLT, Nat.reduceBneDiff, Int.reduceAdd, Int.cast_ofNat_Int, Int.toNat_natCast, Int.reduceLE, Int.reduceLT, Int.reduceToNat, Int.reduceEq, ↓reduceIte], by simp only [go_sem, Nat.reduceAdd, Nat.reduceMul, Nat.reduceSub, Nat.reduceBEq, Nat.reduceEqDiff, Nat.reduceLeDiff, Nat.reduceLT, Nat.reduceBneDiff, Int.reduceAdd, Int.cast_ofNat_Int, Int.toNat_natCast, Int.reduceLE, Int.reduceLT, Int.reduceToNat, Int.reduceEq, ↓reduceIte]⟩
    simp only [go_sem, Nat.reduceAdd, Nat.reduceMul, Nat.reduceSub, Nat.reduceBEq, Nat.reduceEqDiff, Nat.reduceLeDiff, Nat.reduceLT, Nat.reduceBneDiff, Int.reduceAdd, Int.cast_ofNat_Int, Int.toNat_natCast, Int.reduceLE, Int.reduceLT, Int.reduceToNat, Int.reduceEq, ↓reduceIte]
    exact Grown.nil _ _ _
theorem rput_loop (B : Heap) (n0 : Nat) (r : Rt) (v : AV) (l : List Rt) (hlim : lim ≤ B.length) (hv : Shows B 4 v l.length (rows l)) (hl : l.length < 1000000) (box : ∀ G, Heap.cells (B ++ G) n0 0 = some r.c) {K : List Frm} {Q : Post} {e : Env}
    (e3 : e 3 = .ptr n0 0 0) (e5 : e 5 = .nils) (e6 : e 6 = .bool false) (e7 : e 7 = v) (e8 : e 8 = .int .i64 0)
    (g : ∀ (e' : Env) (G : Heap) (o : List Rt) (d : Bool), Grown 4 B G o.length (rows o) (e' 5) → e' 6 = .bool d → e' 3 = .ptr n0 0 0 → rIns r l = o ++ (if d then [] else [r]) → o.length ≤ l.length + 1 → ON (PX hook) lim K (.exit 0) e' (B ++ G) Q) :
    GO (PX hook) lim (.loop f56b0) K e B Q := by
  have hrl := rows_length l
  have hlen := hv.len
  refine GO_loop _ (fun m e H' => ∃ (k : Nat) (G : Heap) (o : List Rt) (d : Bool), k + m = l.length ∧ Grown 4 B G o.length (rows o) (e 5) ∧ e 3 = .ptr n0 0 0 ∧ e 6 = .bool d ∧ e 7 = v ∧ e 8 = .int .i64 (k : Int) ∧ H' = B ++ G ∧ rIns r l = o ++ (if d then l.drop k else rIns r (l.drop k)) ∧ o.length ≤ k + d.toNat) ?_ l.length _ _ ?_
  · rintro m e H' ⟨k, G, o, d, hk, hg, i3, i6, i7, i8, rfl, ho, hol⟩
    cases m with
    | zero =>
      have hk' : k = l.length := by omega
      subst hk'
      have dd : decide ((l.length : Int) < (l.length : Int)) = false := by simp
      simp only [f56b0, go_sem, Nat.reduceAdd, Nat.reduceMul, Nat.reduceSub, Nat.reduceBEq, Nat.reduceEqDiff, Nat.reduceLeDiff, Nat.reduceLT, Nat.reduceBneDiff, Int.reduceAdd, Int.cast_ofNat_Int, Int.toNat_natCast, Int.reduceLE, Int.reduceLT, Int.reduceToNat, Int.reduceEq, ↓reduceIte, i3, i6, i7, i8, hlen, dd]
      rw [List.drop_of_length_le (Nat.le_refl _)] at ho
      exact g _ G o d (by simp only [go_sem, Nat.reduceAdd, Nat.reduceMul, Nat.reduceSub, Nat.reduceBEq, Nat.reduceEqDiff, Nat.reduceLeDiff, Nat.reduceLT, Nat.reduceBneDiff, Int.reduceAdd, Int.cast_ofNat_Int, Int.toNat_natCast, Int.reduceLE, Int.reduceLT, Int.reduceToNat, Int.reduceEq, ↓reduceIte]; exact hg) (by simp only [go_sem, Nat.reduceAdd, Nat.reduceMul, Nat.reduceSub, Nat.reduceBEq, Nat.reduceEqDiff, Nat.reduceLeDiff, Nat.reduceLT, Nat.reduceBneDiff, Int.reduceAdd, Int.cast_ofNat_Int, Int.toNat_natCast, Int.reduceLE, Int.reduceLT, Int.reduceToNat, Int.reduceEq, ↓reduceIte]; exact i6) (by simp only [go_sem, Nat.reduceAdd, Nat.reduceMul, Nat.reduceSub, Nat.reduceBEq, Nat.reduceEqDiff, Nat.reduceLeDiff, Nat.reduceLT, Nat.reduceBneDiff, Int.reduceAdd, Int.cast_ofNat_Int, Int.toNat_natCast, Int.reduceLE, Int.reduceLT, Int.reduceToNat, Int.reduceEq, ↓reduceIte]; exact i3) (by rw [ho]; rfl) (by cases d <;> simp at hol ⊢ <;> omega)
    | succ m =>
      have hdn : d.toNat ≤ 1 := by cases d <;> simp
      have dd : decide ((k : Int) < (l.length : Int)) = true := by rw [decide_eq_true_eq]; omega
      have a1 : IntKind.wrap .i64 ((k : Int) + 1) = ((k + 1 : Nat) : Int) := by rw [wrap_i64] <;> omega
      obtain ⟨s, hs, hd⟩ := get_of_lt (show k < l.length by omega)
      obtain ⟨id, ver, hat, hcl⟩ := hv.at (show k < l.length by omega)
      have t3 := rows_take3 l k s hs
      have t4 := rows_take l k s hs
      have l3 : k * 4 + 3 ≤ (rows l).length := by omega
      have l4 : k * 4 + 4 ≤ (rows l).length := by omega
      have bx := box
      simp only [Rt.c] at bx
      have rc1 : ∀ q : Rt, rows [q] = q.c := fun q => by simp [rows]
      cases d
      · simp only [Bool.false_eq_true, if_false] at ho
        rw [hd, rIns] at ho
        cases hc : decide (0 < cmpP s.a s.n r.a r.n)
        · rw [if_neg (by simpa using hc)] at ho
          obtain ⟨v', G', ha, hg'⟩ := hg.push (bytes := 32) (lim := lim) s.c rfl hlim (by omega)
          simp only [Rt.c] at ha
          simp only [f56b0, go_sem, Nat.reduceAdd, Nat.reduceMul, Nat.reduceSub, Nat.reduceBEq, Nat.reduceEqDiff, Nat.reduceLeDiff, Nat.reduceLT, Nat.reduceBneDiff, Int.reduceAdd, Int.cast_ofNat_Int, Int.toNat_natCast, Int.reduceLE, Int.reduceLT, Int.reduceToNat, Int.reduceEq, ↓reduceIte, i3, i6, i7, i8, hlen, dd, a1, hat, hcl, t3, l3, t4, l4, bx, ev_rCmp, hc, Rt.c, ha]
          refine ⟨m, by omega, k + 1, G', o ++ [s], false, by omega, ?_, rfl, rfl, rfl, ?_, ?_⟩
          · rw [rows_append, rc1, List.length_append]; exact hg'
          · rw [ho]; simp
          · simp at hol ⊢; omega
        · rw [if_pos (by simpa using hc)] at ho
          obtain ⟨v1, G1, ha1, hg1⟩ := hg.push (bytes := 32) (lim := lim) r.c rfl hlim (by omega)
          obtain ⟨v', G', ha, hg'⟩ := hg1.push (bytes := 32) (lim := lim) s.c rfl hlim (by omega)
          simp only [Rt.c] at ha ha1
          simp only [f56b0, go_sem, Nat.reduceAdd, Nat.reduceMul, Nat.reduceSub, Nat.reduceBEq, Nat.reduceEqDiff, Nat.reduceLeDiff, Nat.reduceLT, Nat.reduceBneDiff, Int.reduceAdd, Int.cast_ofNat_Int, Int.toNat_natCast, Int.reduceLE, Int.reduceLT, Int.reduceToNat, Int.reduceEq, ↓reduceIte, i3, i6, i7, i8, hlen, dd, a1, hat, hcl, t3, l3, t4, l4, bx, ev_rCmp, hc, Rt.c, ha1, ha]
          refine ⟨m, by omega, k + 1, G', o ++ [r] ++ [s], true, by omega, ?_, rfl, rfl, rfl, ?_, ?_⟩
          · rw [rows_append, rows_append, rc1, rc1, List.length_append, List.length_append]; exact hg'
          · rw [ho]; simp
          · simp at hol ⊢; omega
      · simp only [if_true] at ho
        obtain ⟨v', G', ha, hg'⟩ := hg.push (bytes := 32) (lim := lim) s.c rfl hlim (by omega)
        simp only [Rt.c] at ha
        simp only [f56b0, go_sem, Nat.reduceAdd, Nat.reduceMul, Nat.reduceSub, Nat.reduceBEq, Nat.reduceEqDiff, Nat.reduceLeDiff, Nat.reduceLT, Nat.reduceBneDiff, Int.reduceAdd, Int.cast_ofNat_Int, Int.toNat_natCast, Int.reduceLE, Int.reduceLT, Int.reduceToNat, Int.reduceEq, ↓reduceIte, i3, i6, i7, i8, hlen, dd, a1, hat, hcl, t4, l4, Rt.c, ha]
        refine ⟨m, by omega, k + 1, G', o ++ [s], true, by omega, ?_, rfl, rfl, rfl, ?_, ?_⟩
        · rw [rows_append, rc1, List.length_append]; exact hg'
        · rw [ho, hd]; simp
        · simp at hol ⊢; omega
  · exact ⟨0, [], [], false, by omega, by rw [e5]; exact Grown.nil _ _ _, e3, e6, e7, e8, (List.append_nil _).symm, rfl, by simp⟩
theorem rDrop_le (a : Adr) (n : Int) (l : List Rt) : (rDrop a n l).length ≤ l.length := List.length_filter_le _ _
theorem rIns_len (r : Rt) (l : List Rt) : (rIns r l).length = l.length + 1 := by
  induction l with
  | nil => rfl
  | cons s l ih => rw [rIns]; split <;> simp [ih]
theorem ev_rPut (v : AV) (l : List Rt) (r : Rt) (hv : Shows H 4 v l.length (rows l)) (hl : l.length < 1000000) :
    ∃ v' L, ev (PX hook) lim 56 [v, .agg [u64 (hi r.a), u64 (lo r.a), .int .i64 r.n, .int .i64 r.x]] H = some (v', H ++ L) ∧ Grown 4 H L (rPut r l).length (rows (rPut r l)) v' := by
  suffices hs : EV (PX hook) lim 56 [v, .agg [u64 (hi r.a), u64 (lo r.a), .int .i64 r.n, .int .i64 r.x]] H fun v' H' => ∃ L, H' = H ++ L ∧ Grown 4 H L (rPut r l).length (rows (rPut r l)) v' by
    rw [EV_iff] at hs
    obtain ⟨v', H', h1, L, rfl, h2⟩ := hs
    exact ⟨v', L, h1, h2⟩
  rw [EV_own _ (PF t56) rfl (by decide)]
  obtain ⟨v1, L1, hd, hsh⟩ := ev_rDrop (hook := hook) (lim := H.length) v l r.a r.n (hv.more [Blk.rw 0 4 [u64 (hi r.a), u64 (lo r.a), .int .i64 r.n, .int .i64 r.x]]) hl
  have hsh := Grown.shows hsh
  rw [List.append_assoc, List.singleton_append] at hd hsh
  have hle := rDrop_le r.a r.n l
  simp only [f56, go_sem, Nat.reduceAdd, Nat.reduceMul, Nat.reduceSub, Nat.reduceBEq, Nat.reduceEqDiff, Nat.reduceLeDiff, Nat.reduceLT, Nat.reduceBneDiff, Int.reduceAdd, Int.cast_ofNat_Int, Int.toNat_natCast, Int.reduceLE, Int.reduceLT, Int.reduceToNat, Int.reduceEq, ↓reduceIte, hd]
  refine rput_loop (H ++ Blk.rw 0 4 [u64 (hi r.a), u64 (lo r.a), .int .i64 r.n, .int .i64 r.x] :: L1) H.length r v1 (rDrop r.a r.n l) ?_ hsh (by omega) ?_ ?_ ?_ ?_ ?_ ?_ ?_
  · simp
  · intro G; simp only [go_sem, Nat.reduceAdd, Nat.reduceMul, Nat.reduceSub, Nat.reduceBEq, Nat.reduceEqDiff, Nat.reduceLeDiff, Nat.reduceLT, Nat.reduceBneDiff, Int.reduceAdd, Int.cast_ofNat_Int, Int.toNat_natCast, Int.reduceLE, Int.reduceLT, Int.reduceToNat, Int.reduceEq, ↓reduceIte, Rt.c]
  all_goals (try simp only [go_sem, Nat.reduceAdd, Nat.reduceMul, Nat.reduceSub, Nat.reduceBEq, Nat.reduceEqDiff, Nat.reduceLeDiff, Nat.reduceLT, Nat.reduceBneDiff, Int.reduceAdd, Int.cast_ofNat_Int, Int.toNat_natCast, Int.reduceLE, Int.reduceLT, Int.reduceToNat, Int.reduceEq, ↓reduceIte])
  intro e' G o d hg e6 e3 ho hol
  have rc1 : ∀ q : Rt, rows [q] = q.c := fun q => by simp [rows]
  cases d
  · obtain ⟨v', G', ha, hg'⟩ := hg.push (bytes := 32) (lim := H.length) r.c rfl (by simp) (by omega)
    have hg2 : Grown 4 (H ++ (Blk.rw 0 4 [u64 (hi r.a), u64 (lo r.a), .int .i64 r.n, .int .i64 r.x] :: L1)) G' (rPut r l).length (rows (rPut r l)) v' := by
      have e : rPut r l = o ++ [r] := ho
      rw [e, rows_append, rc1, List.length_append]; exact hg'
    obtain ⟨v2, L2, hfin, hsh2⟩ := hg2.keep (rows_flats _)
    simp only [go_sem, Nat.reduceAdd, Nat.reduceMul, Nat.reduceSub, Nat.reduceBEq, Nat.reduceEqDiff, Nat.reduceLeDiff, Nat.reduceLT, Nat.reduceBneDiff, Int.reduceAdd, Int.cast_ofNat_Int, Int.toNat_natCast, Int.reduceLE, Int.reduceLT, Int.reduceToNat, Int.reduceEq, ↓reduceIte, Rt.c, show H.length + (L1.length + 1) + G.length = H.length + (L1.length + G.length + 1) by omega] at ha hfin
    simp only [go_sem, Nat.reduceAdd, Nat.reduceMul, Nat.reduceSub, Nat.reduceBEq, Nat.reduceEqDiff, Nat.reduceLeDiff, Nat.reduceLT, Nat.reduceBneDiff, Int.reduceAdd, Int.cast_ofNat_Int, Int.toNat_natCast, Int.reduceLE, Int.reduceLT, Int.reduceToNat, Int.reduceEq, ↓reduceIte, e6, e3, ha, hfin]
    exact ⟨L2, rfl, hsh2⟩
  · have hg2 : Grown 4 (H ++ (Blk.rw 0 4 [u64 (hi r.a), u64 (lo r.a), .int .i64 r.n, .int .i64 r.x] :: L1)) G (rPut r l).length (rows (rPut r l)) (e' 5) := by
      have e : rPut r l = o := by rw [rPut, ho]; simp
      rw [e]; exact hg
    obtain ⟨v2, L2, hfin, hsh2⟩ := hg2.keep (rows_flats _)
    simp only [go_sem, Nat.reduceAdd, Nat.reduceMul, Nat.reduceSub, Nat.reduceBEq, Nat.reduceEqDiff, Nat.reduceLeDiff, Nat.reduceLT, Nat.reduceBneDiff, Int.reduceAdd, Int.cast_ofNat_Int, Int.toNat_natCast, Int.reduceLE, Int.reduceLT, Int.reduceToNat, Int.reduceEq, ↓reduceIte] at hfin
    simp only [go_sem, Nat.reduceAdd, Nat.reduceMul, Nat.reduceSub, Nat.reduceBEq, Nat.reduceEqDiff, Nat.reduceLeDiff, Nat.reduceLT, Nat.reduceBneDiff, Int.reduceAdd, Int.cast_ofNat_Int, Int.toNat_natCast, Int.reduceLE, Int.reduceLT, Int.reduceToNat, Int.reduceEq, ↓reduceIte, e6, e3, hfin]
    exact ⟨L2, rfl, hsh2⟩
theorem best_in (v : AV) (l : List Rt) (a : Adr) (m0 : Nat) (hv : Shows H 4 v l.length (rows l)) (hl : l.length < 1000000) {K : List Frm} {Q : Post} {e : Env}
    (e0 : e 0 = v) (e3 : e 3 = .ptr H.length 0 0) (e4 : e 4 = .ptr (H.length + 1) 0 0) (e5 : e 5 = .bool false) (e6 : e 6 = .int .i64 (m0 : Int)) (e7 : e 7 = .int .i64 0)
    (g1 : bestAt l a m0 = none → ∀ e' : Env, e' 0 = v → e' 3 = .ptr H.length 0 0 → e' 4 = .ptr (H.length + 1) 0 0 → e' 5 = .bool false → e' 6 = .int .i64 (m0 : Int) →
      ON (PX hook) H.length K (.exit 2) e' (H ++ [Blk.rw 0 2 [u64 (hi a), u64 (lo a)], .rw 0 4 [u64 0#64, u64 0#64, .int .i64 0, .int .i64 0]]) Q)
    (g2 : ∀ r, bestAt l a m0 = some r → ∀ e' : Env, e' 4 = .ptr (H.length + 1) 0 0 → e' 5 = .bool true → ON (PX hook) H.length K .ret e' (H ++ [Blk.rw 0 2 [u64 (hi a), u64 (lo a)], .rw 0 4 r.c]) Q) :
    GO (PX hook) H.length (.loop f73b0) K e (H ++ [Blk.rw 0 2 [u64 (hi a), u64 (lo a)], .rw 0 4 [u64 0#64, u64 0#64, .int .i64 0, .int .i64 0]]) Q := by
  have hlen := hv.len
  have hrl := rows_length l
  refine GO_loop _ (fun m e H' => ∃ k : Nat, k + m = l.length ∧ bestAt l a m0 = bestAt (l.drop k) a m0 ∧ e 0 = v ∧ e 3 = .ptr H.length 0 0 ∧ e 4 = .ptr (H.length + 1) 0 0 ∧ e 5 = .bool false ∧ e 6 = .int .i64 (m0 : Int) ∧ e 7 = .int .i64 (k : Int) ∧ H' = H ++ [Blk.rw 0 2 [u64 (hi a), u64 (lo a)], .rw 0 4 [u64 0#64, u64 0#64, .int .i64 0, .int .i64 0]]) ?_ l.length _ _ ⟨0, by omega, rfl, e0, e3, e4, e5, e6, e7, rfl⟩
  rintro m e H' ⟨k, hk, hf, i0, i3, i4, i5, i6, i7, rfl⟩
  cases m with
  | zero =>
    have hk' : k = l.length := by omega
    subst hk'
    have d : decide ((l.length : Int) < (l.length : Int)) = false := by simp
    simp only [f73b0, go_sem, Nat.reduceAdd, Nat.reduceMul, Nat.reduceSub, Nat.reduceBEq, Nat.reduceEqDiff, Nat.reduceLeDiff, Nat.reduceLT, Nat.reduceBneDiff, Int.reduceAdd, Int.cast_ofNat_Int, Int.toNat_natCast, Int.reduceLE, Int.reduceLT, Int.reduceToNat, Int.reduceEq, ↓reduceIte, i0, i3, i4, i5, i6, i7, hlen, d]
    rw [List.drop_of_length_le (Nat.le_refl _)] at hf
    exact g1 (by rw [hf]; rfl) _ (by simp only [go_sem, Nat.reduceAdd, Nat.reduceMul, Nat.reduceSub, Nat.reduceBEq, Nat.reduceEqDiff, Nat.reduceLeDiff, Nat.reduceLT, Nat.reduceBneDiff, Int.reduceAdd, Int.cast_ofNat_Int, Int.toNat_natCast, Int.reduceLE, Int.reduceLT, Int.reduceToNat, Int.reduceEq, ↓reduceIte]; exact i0) (by simp only [go_sem, Nat.reduceAdd, Nat.reduceMul, Nat.reduceSub, Nat.reduceBEq, Nat.reduceEqDiff, Nat.reduceLeDiff, Nat.reduceLT, Nat.reduceBneDiff, Int.reduceAdd, Int.cast_ofNat_Int, Int.toNat_natCast, Int.reduceLE, Int.reduceLT, Int.reduceToNat, Int.reduceEq, ↓reduceIte]; exact i3) (by simp only [go_sem, Nat.reduceAdd, Nat.reduceMul, Nat.reduceSub, Nat.reduceBEq, Nat.reduceEqDiff, Nat.reduceLeDiff, Nat.reduceLT, Nat.reduceBneDiff, Int.reduceAdd, Int.cast_ofNat_Int, Int.toNat_natCast, Int.reduceLE, Int.reduceLT, Int.reduceToNat, Int.reduceEq, ↓reduceIte]; exact i4) (by simp only [go_sem, Nat.reduceAdd, Nat.reduceMul, Nat.reduceSub, Nat.reduceBEq, Nat.reduceEqDiff, Nat.reduceLeDiff, Nat.reduceLT, Nat.reduceBneDiff, Int.reduceAdd, Int.cast_ofNat_Int, Int.toNat_natCast, Int.reduceLE, Int.reduceLT, Int.reduceToNat, Int.reduceEq, ↓reduceIte]; exact i5) (by simp only [go_sem, Nat.reduceAdd, Nat.reduceMul, Nat.reduceSub, Nat.reduceBEq, Nat.reduceEqDiff, Nat.reduceLeDiff, Nat.reduceLT, Nat.reduceBneDiff, Int.reduceAdd, Int.cast_ofNat_Int, Int.toNat_natCast, Int.reduceLE, Int.reduceLT, Int.reduceToNat, Int.reduceEq, ↓reduceIte]; exact i6)
  | succ m =>
    have d : decide ((k : Int) < (l.length : Int)) = true := by rw [decide_eq_true_eq]; omega
    have a1 : IntKind.wrap .i64 ((k : Int) + 1) = ((k + 1 : Nat) : Int) := by rw [wrap_i64] <;> omega
    obtain ⟨r, hr, hd⟩ := get_of_lt (show k < l.length by omega)
    obtain ⟨id, ver, hat, hcl⟩ := hv.at (show k < l.length by omega)
    have t3 := rows_take3 l k r hr
    have t4 := rows_take l k r hr
    have g2' := rows_get l k r hr 2 (by omega)
    rw [show r.c[2]? = some (.int .i64 r.n) from rfl] at g2'
    have l3 : k * 4 + 3 ≤ (rows l).length := by omega
    have l4 : k * 4 + 4 ≤ (rows l).length := by omega
    rw [hd] at hf
    cases hb : (r.n == (m0 : Int))
    · have ef : bestAt l a m0 = bestAt (l.drop (k + 1)) a m0 := by rw [hf]; unfold bestAt; rw [List.find?_cons_of_neg]; simp [hb]
      simp only [f73b0, go_sem, Nat.reduceAdd, Nat.reduceMul, Nat.reduceSub, Nat.reduceBEq, Nat.reduceEqDiff, Nat.reduceLeDiff, Nat.reduceLT, Nat.reduceBneDiff, Int.reduceAdd, Int.cast_ofNat_Int, Int.toNat_natCast, Int.reduceLE, Int.reduceLT, Int.reduceToNat, Int.reduceEq, ↓reduceIte, i0, i3, i4, i5, i6, i7, hlen, d, a1, hat, hcl, g2', hb]
      exact ⟨m, by omega, k + 1, by omega, ef, rfl⟩
    · cases hm : matchP r.a r.n a
      · have ef : bestAt l a m0 = bestAt (l.drop (k + 1)) a m0 := by rw [hf]; unfold bestAt; rw [List.find?_cons_of_neg]; simp [hm]
        simp only [f73b0, go_sem, Nat.reduceAdd, Nat.reduceMul, Nat.reduceSub, Nat.reduceBEq, Nat.reduceEqDiff, Nat.reduceLeDiff, Nat.reduceLT, Nat.reduceBneDiff, Int.reduceAdd, Int.cast_ofNat_Int, Int.toNat_natCast, Int.reduceLE, Int.reduceLT, Int.reduceToNat, Int.reduceEq, ↓reduceIte, i0, i3, i4, i5, i6, i7, hlen, d, a1, hat, hcl, g2', hb, t3, l3, ev_rMatch, hm]
        exact ⟨m, by omega, k + 1, by omega, ef, rfl⟩
      · have ef : bestAt l a m0 = some r := by rw [hf]; unfold bestAt; rw [List.find?_cons_of_pos]; simp [hm, hb]
        simp only [f73b0, go_sem, Nat.reduceAdd, Nat.reduceMul, Nat.reduceSub, Nat.reduceBEq, Nat.reduceEqDiff, Nat.reduceLeDiff, Nat.reduceLT, Nat.reduceBneDiff, Int.reduceAdd, Int.cast_ofNat_Int, Int.toNat_natCast, Int.reduceLE, Int.reduceLT, Int.reduceToNat, Int.reduceEq, ↓reduceIte, i0, i3, i4, i5, i6, i7, hlen, d, a1, hat, hcl, g2', hb, t3, l3, t4, l4, ev_rMatch, hm, Rt.c]
        exact g2 r ef _ (by simp only [go_sem, Nat.reduceAdd, Nat.reduceMul, Nat.reduceSub, Nat.reduceBEq, Nat.reduceEqDiff, Nat.reduceLeDiff, Nat.reduceLT, Nat.reduceBneDiff, Int.reduceAdd, Int.cast_ofNat_Int, Int.toNat_natCast, Int.reduceLE, Int.reduceLT, Int.reduceToNat, Int.reduceEq, ↓reduceIte]; exact i4) (by simp only [go_sem, Nat.reduceAdd, Nat.reduceMul, Nat.reduceSub, Nat.reduceBEq, Nat.reduceEqDiff, Nat.reduceLeDiff, Nat.reduceLT, Nat.reduceBneDiff, Int.reduceAdd, Int.cast_ofNat_Int, Int.toNat_natCast, Int.reduceLE, Int.reduceLT, Int.reduceToNat, Int.reduceEq, ↓reduceIte])
theorem ev_rBest (v : AV) (l : List Rt) (a : Adr) (hv : Shows H 4 v l.length (rows l)) (hl : l.length < 1000000) : ev (PX hook) lim 73 [v, .agg [u64 (hi a), u64 (lo a)]] H = some (rtV (bestFrom l a 128), H) := by
  refine ev_own _ (PF t73) rfl (by decide) ?_
  simp only [f73, go_sem, Nat.reduceAdd, Nat.reduceMul, Nat.reduceSub, Nat.reduceBEq, Nat.reduceEqDiff, Nat.reduceLeDiff, Nat.reduceLT, Nat.reduceBneDiff, Int.reduceAdd, Int.cast_ofNat_Int, Int.toNat_natCast, Int.reduceLE, Int.reduceLT, Int.reduceToNat, Int.reduceEq, ↓reduceIte]
  refine GO_loop _ (fun m e H' => m ≤ 129 ∧ (bestFrom l a 128 = match m with | 0 => none | k + 1 => bestFrom l a k) ∧ e 0 = v ∧ e 3 = .ptr H.length 0 0 ∧ e 4 = .ptr (H.length + 1) 0 0 ∧ e 5 = .bool false ∧ e 6 = .int .i64 ((m : Int) - 1) ∧ H' = H ++ [Blk.rw 0 2 [u64 (hi a), u64 (lo a)], .rw 0 4 [u64 0#64, u64 0#64, .int .i64 0, .int .i64 0]]) ?_ 129 _ _ ?_
  · rintro m e H' ⟨hm, hb, i0, i3, i4, i5, i6, rfl⟩
    cases m with
    | zero =>
      have d : decide ((0 : Int) ≤ 0 - 1) = false := by decide
      simp only [f73b1, go_sem, Nat.reduceAdd, Nat.reduceMul, Nat.reduceSub, Nat.reduceBEq, Nat.reduceEqDiff, Nat.reduceLeDiff, Nat.reduceLT, Nat.reduceBneDiff, Int.reduceAdd, Int.cast_ofNat_Int, Int.toNat_natCast, Int.reduceLE, Int.reduceLT, Int.reduceToNat, Int.reduceEq, ↓reduceIte, i0, i3, i4, i5, i6, d]
      rw [hb]; rfl
    | succ k =>
      have hk : (((k + 1 : Nat) : Int) - 1) = (k : Int) := by omega
      rw [hk] at i6
      have d : decide ((0 : Int) ≤ (k : Int)) = true := by rw [decide_eq_true_eq]; omega
      have a1 : IntKind.wrap .i64 ((k : Int) - 1) = (k : Int) - 1 := by rw [wrap_i64] <;> omega
      simp only at hb
      simp only [f73b1, go_sem, Nat.reduceAdd, Nat.reduceMul, Nat.reduceSub, Nat.reduceBEq, Nat.reduceEqDiff, Nat.reduceLeDiff, Nat.reduceLT, Nat.reduceBneDiff, Int.reduceAdd, Int.cast_ofNat_Int, Int.toNat_natCast, Int.reduceLE, Int.reduceLT, Int.reduceToNat, Int.reduceEq, ↓reduceIte, i0, i3, i4, i5, i6, d]
      refine best_in v l a k hv hl ?_ ?_ ?_ ?_ ?_ ?_ ?_ ?_
      all_goals (try simp only [go_sem, Nat.reduceAdd, Nat.reduceMul, Nat.reduceSub, Nat.reduceBEq, Nat.reduceEqDiff, Nat.reduceLeDiff, Nat.reduceLT, Nat.reduceBneDiff, Int.reduceAdd, Int.cast_ofNat_Int, Int.toNat_natCast, Int.reduceLE, Int.reduceLT, Int.reduceToNat, Int.reduceEq, ↓reduceIte, i0, i3, i4, i5, i6])
      · intro hn e' j0 j3 j4 j5 j6
        simp only [go_sem, Nat.reduceAdd, Nat.reduceMul, Nat.reduceSub, Nat.reduceBEq, Nat.reduceEqDiff, Nat.reduceLeDiff, Nat.reduceLT, Nat.reduceBneDiff, Int.reduceAdd, Int.cast_ofNat_Int, Int.toNat_natCast, Int.reduceLE, Int.reduceLT, Int.reduceToNat, Int.reduceEq, ↓reduceIte, j0, j3, j4, j5, j6, a1]
        refine ⟨k, by omega, by omega, ?_, rfl⟩
        rw [hb]
        cases k with
        | zero => exact hn
        | succ k => simp only [bestFrom, hn]
      · intro r hn e' j4 j5
        simp only [go_sem, Nat.reduceAdd, Nat.reduceMul, Nat.reduceSub, Nat.reduceBEq, Nat.reduceEqDiff, Nat.reduceLeDiff, Nat.reduceLT, Nat.reduceBneDiff, Int.reduceAdd, Int.cast_ofNat_Int, Int.toNat_natCast, Int.reduceLE, Int.reduceLT, Int.reduceToNat, Int.reduceEq, ↓reduceIte, j4, j5, Rt.c]
        have : bestFrom l a 128 = some r := by
          rw [hb]
          cases k with
          | zero => exact hn
          | succ k => simp only [bestFrom, hn]
        rw [this]; rfl
  · exact ⟨Nat.le_refl _, rfl, by simp only [go_sem, Nat.reduceAdd, Nat.reduceMul, Nat.reduceSub, Nat.reduceBEq, Nat.reduceEqDiff, Nat.reduceLeDiff, Nat.reduceLT, Nat.reduceBneDiff, Int.reduceAdd, Int.cast_ofNat_Int, Int.toNat_natCast, Int.reduceLE, Int.reduceLT, Int.reduceToNat, Int.reduceEq, ↓reduceIte], by simp only [go_sem, Nat.reduceAdd, Nat.reduceMul, Nat.reduceSub, Nat.reduceBEq, Nat.reduceEqDiff, Nat.reduceLeDiff, Nat.reduceLT, Nat.reduceBneDiff, Int.reduceAdd, Int.cast_ofNat_Int, Int.toNat_natCast, Int.reduceLE, Int.reduceLT, Int.reduceToNat, Int.reduceEq, ↓reduceIte], by simp only [go_sem, Nat.reduceAdd, Nat.reduceMul, Nat.reduceSub, Nat.reduceBEq, Nat.reduceEqDiff, Nat.reduceLeDiff, Nat.reduceLT, Nat.reduceBneDiff, Int.reduceAdd, Int.cast_ofNat_Int, Int.toNat_natCast, Int.reduceLE, Int.reduceLT, Int.reduceToNat, Int.reduceEq, ↓reduceIte], by simp only [go_sem, Nat.reduceAdd, Nat.reduceMul, Nat.reduceSub, Nat.reduceBEq, Nat.reduceEqDiff, Nat.reduceLeDiff, Nat.reduceLT, Nat.reduceBneDiff, Int.reduceAdd, Int.cast_ofNat_Int, Int.toNat_natCast, Int.reduceLE, Int.reduceLT, Int.reduceToNat, Int.reduceEq, ↓reduceIte], by simp only [go_sem, Nat.reduceAdd, Nat.reduceMul, Nat.reduceSub, Nat.reduceBEq, Nat.reduceEqDiff, Nat.reduceLeDiff, Nat.reduceLT, Nat.reduceBneDiff, Int.reduceAdd, Int.cast_ofNat_Int, Int.toNat_natCast, Int.reduceLE, Int.reduceLT, Int.reduceToNat, Int.reduceEq, ↓reduceIte]; rfl, rfl⟩
theorem rtV_cells (o : Option Rt) : ∃ cs b, rtV o = .tup [.agg cs, .bool b] ∧ cs.length = 4 ∧ putCells [u64 0#64, u64 0#64, .int .i64 0, .int .i64 0] 0 cs = cs ∧ AV.flats cs = true ∧ List.take 4 cs = cs := by
  cases o with
  | none => exact ⟨[u64 0#64, u64 0#64, .int .i64 0, .int .i64 0], false, rfl, rfl, rfl, rfl, rfl⟩
  | some r => exact ⟨r.c, true, rfl, rfl, rfl, rfl, rfl⟩
theorem ev_rCover (v : AV) (l : List Rt) (a : Adr) (n : Int) (hv : Shows H 4 v l.length (rows l)) (hl : l.length < 1000000) : ev (PX hook) lim 55 [v, .agg [u64 (hi a), u64 (lo a), .int .i64 n]] H = some (rtV (bestFrom (rShort n l) a 128), H) := by
  refine ev_own _ (PF t55) rfl (by decide) ?_
  have hlen := hv.len
  have hrl := rows_length l
  simp only [f55, go_sem, Nat.reduceAdd, Nat.reduceMul, Nat.reduceSub, Nat.reduceBEq, Nat.reduceEqDiff, Nat.reduceLeDiff, Nat.reduceLT, Nat.reduceBneDiff, Int.reduceAdd, Int.cast_ofNat_Int, Int.toNat_natCast, Int.reduceLE, Int.reduceLT, Int.reduceToNat, Int.reduceEq, ↓reduceIte]
  refine GO_loop _ (fun m e H' => ∃ (k : Nat) (G : Heap), k + m = l.length ∧ Grown 4 (H ++ [Blk.rw 0 3 [u64 (hi a), u64 (lo a), .int .i64 n], .rw 0 4 [u64 0#64, u64 0#64, .int .i64 0, .int .i64 0]]) G (rShort n (l.take k)).length (rows (rShort n (l.take k))) (e 6) ∧ e 0 = v ∧ e 3 = .ptr H.length 0 0 ∧ e 4 = .ptr (H.length + 1) 0 0 ∧ e 7 = .int .i64 (k : Int) ∧ H' = (H ++ [Blk.rw 0 3 [u64 (hi a), u64 (lo a), .int .i64 n], .rw 0 4 [u64 0#64, u64 0#64, .int .i64 0, .int .i64 0]]) ++ G) ?_ l.length _ _ ?_
  · rintro m e H' ⟨k, G, hk, hg, i0, i3, i4, i7, rfl⟩
    have hdl : (rShort n (l.take k)).length ≤ k := by
      have := List.length_filter_le (fun r : Rt => decide (r.n < n)) (l.take k)
      rw [List.length_take] at this
      unfold rShort; omega
    cases m with
    | zero =>
      have hk' : k = l.length := by omega
      subst hk'
      have d : decide ((l.length : Int) < (l.length : Int)) = false := by simp
      rw [List.take_length] at hg hdl
      have hb := ev_rBest (hook := hook) (lim := H.length) (e 6) (rShort n l) a (Grown.shows hg) (by omega)
      obtain ⟨cs, b, h1, h2, h3, h4, h5⟩ := rtV_cells (bestFrom (rShort n l) a 128)
      rw [h1] at hb
      simp only [go_sem, Nat.reduceAdd, Nat.reduceMul, Nat.reduceSub, Nat.reduceBEq, Nat.reduceEqDiff, Nat.reduceLeDiff, Nat.reduceLT, Nat.reduceBneDiff, Int.reduceAdd, Int.cast_ofNat_Int, Int.toNat_natCast, Int.reduceLE, Int.reduceLT, Int.reduceToNat, Int.reduceEq, ↓reduceIte] at hb
      simp only [f55b0, go_sem, Nat.reduceAdd, Nat.reduceMul, Nat.reduceSub, Nat.reduceBEq, Nat.reduceEqDiff, Nat.reduceLeDiff, Nat.reduceLT, Nat.reduceBneDiff, Int.reduceAdd, Int.cast_ofNat_Int, Int.toNat_natCast, Int.reduceLE, Int.reduceLT, Int.reduceToNat, Int.reduceEq, ↓reduceIte, i0, i3, i4, i7, hlen, d, hb, h1, h2, h3, h4, h5]
    | succ m =>
      have d : decide ((k : Int) < (l.length : Int)) = true := by rw [decide_eq_true_eq]; omega
      have a1 : IntKind.wrap .i64 ((k : Int) + 1) = ((k + 1 : Nat) : Int) := by rw [wrap_i64] <;> omega
      obtain ⟨r, hr, hd⟩ := get_of_lt (show k < l.length by omega)
      obtain ⟨id, ver, hat, hcl⟩ := hv.at (show k < l.length by omega)
      have t4 := rows_take l k r hr
      have l4 : k * 4 + 4 ≤ (rows l).length := by omega
      have g2' := rows_get l k r hr 2 (by omega)
      rw [show r.c[2]? = some (.int .i64 r.n) from rfl] at g2'
      have tk := take_succ_of hr
      cases hb : decide (r.n < n)
      · have e1 : rShort n (l.take (k + 1)) = rShort n (l.take k) := by rw [tk]; unfold rShort; rw [List.filter_append]; simp at hb; simp [hb]
        simp only [f55b0, go_sem, Nat.reduceAdd, Nat.reduceMul, Nat.reduceSub, Nat.reduceBEq, Nat.reduceEqDiff, Nat.reduceLeDiff, Nat.reduceLT, Nat.reduceBneDiff, Int.reduceAdd, Int.cast_ofNat_Int, Int.toNat_natCast, Int.reduceLE, Int.reduceLT, Int.reduceToNat, Int.reduceEq, ↓reduceIte, i0, i3, i4, i7, hlen, d, a1, hat, hcl, g2', hb]
        exact ⟨m, by omega, k + 1, G, by omega, by rw [e1]; exact hg, rfl, rfl⟩
      · have e1 : rShort n (l.take (k + 1)) = rShort n (l.take k) ++ [r] := by rw [tk]; unfold rShort; rw [List.filter_append]; simp at hb; simp [hb]
        obtain ⟨v', G', ha, hg'⟩ := hg.push (bytes := 32) (lim := H.length) r.c rfl (by simp) (by omega)
        simp only [go_sem, Nat.reduceAdd, Nat.reduceMul, Nat.reduceSub, Nat.reduceBEq, Nat.reduceEqDiff, Nat.reduceLeDiff, Nat.reduceLT, Nat.reduceBneDiff, Int.reduceAdd, Int.cast_ofNat_Int, Int.toNat_natCast, Int.reduceLE, Int.reduceLT, Int.reduceToNat, Int.reduceEq, ↓reduceIte, Rt.c, show H.length + 2 + G.length = H.length + (G.length + 2) by omega] at ha
        simp only [f55b0, go_sem, Nat.reduceAdd, Nat.reduceMul, Nat.reduceSub, Nat.reduceBEq, Nat.reduceEqDiff, Nat.reduceLeDiff, Nat.reduceLT, Nat.reduceBneDiff, Int.reduceAdd, Int.cast_ofNat_Int, Int.toNat_natCast, Int.reduceLE, Int.reduceLT, Int.reduceToNat, Int.reduceEq, ↓reduceIte, i0, i3, i4, i7, hlen, d, a1, hat, hcl, g2', t4, l4, hb, Rt.c, ha]
        refine ⟨m, by omega, k + 1, G', by omega, ?_, rfl, rfl⟩
        rw [e1, List.length_append, rows_append]
        simpa [rows] using hg'
  · refine ⟨0, [], by omega, ?_, by simp only [go_sem, Nat.reduceAdd, Nat.reduceMul, Nat.reduceSub, Nat.reduceBEq, Nat.reduceEqDiff, Nat.reduceLeDiff, Nat.reduceLT, Nat.reduceBneDiff, Int.reduceAdd, Int.cast_ofNat_Int, Int.toNat_natCast, Int.reduceLE, Int.reduceLT, Int.reduceToNat, Int.reduceEq, ↓reduceIte], by simp only [go_sem, Nat.reduceAdd, Nat.reduceMul, Nat.reduceSub, Nat.reduceBEq, Nat.reduceEqDiff, Nat.reduceLeDiff, Nat.reduceLT, Nat.reduceBneDiff, Int.reduceAdd, Int.cast_ofNat_Int, Int.toNat_natCast, Int.reduceLE, Int.reduceLT, Int.reduceToNat, Int.reduceEq, ↓reduceIte], by simp only [go_sem, Nat.reduceAdd, Nat.reduceMul, Nat.reduceSub, Nat.reduceBEq, Nat.reduceEqDiff, Nat.reduceLeDiff, Nat.reduceLT, Nat.reduceBneDiff, Int.reduceAdd, Int.cast_ofNat_Int, Int.toNat_natCast, Int.reduceLE, Int.reduceLT, Int.reduceToNat, Int.reduceEq, ↓reduceIte], by simp only [go_sem, Nat.reduceAdd, Nat.reduceMul, Nat.reduceSub, Nat.reduceBEq, Nat.reduceEqDiff, Nat.reduceLeDiff, Nat.reduceLT, Nat.reduceBneDiff, Int.reduceAdd, Int.cast_ofNat_Int, Int.toNat_natCast, Int.reduceLE, Int.reduceLT, Int.reduceToNat, Int.reduceEq, ↓reduceIte], by simp only [go_sem, Nat.reduceAdd, Nat.reduceMul, Nat.reduceSub, Nat.reduceBEq, Nat.reduceEqDiff, Nat.reduceLeDiff, Nat.reduceLT, Nat.reduceBneDiff, Int.reduceAdd, Int.cast_ofNat_Int, Int.toNat_natCast, Int.reduceLE, Int.reduceLT, Int.reduceToNat, Int.reduceEq, ↓reduceIte]⟩
    simp only [go_sem, Nat.reduceAdd, Nat.reduceMul, Nat.reduceSub, Nat.reduceBEq, Nat.reduceEqDiff, Nat.reduceLeDiff, Nat.reduceLT, Nat.reduceBneDiff, Int.reduceAdd, Int.cast_ofNat_Int, Int.toNat_natCast, Int.reduceLE, Int.reduceLT, Int.reduceToNat, Int.reduceEq, ↓reduceIte]
    exact Grown.nil _ _ _
end Go.Proofs.Ytafonoekobkcdaa.C
