/- THE TRIE'S FUNCTIONS THAT CHANGE IT: what each comes to. Conditions: the trie's blocks stand as told. -/
import Derived.Test.YtdapdfaejemgdaaLbU
import Derived.Test.YtdapdfaejemgdaaAm20
set_option linter.unusedVariables false
set_option linter.unusedSimpArgs false
namespace Go.Proofs.Ytdapdfaejemgdaa.C
open Go.AM
variable {hook : Nat → Nat → List AV → Heap → Option (AV × Heap)} {lim : Nat} {H : Heap}

def FreeIs (B : Nat) (H : Heap) (tid lid fid : Nat) (fv : AV) (fr : List Nat) : Prop :=
  (fr = [] ∧ fv = .nils ∧ fid = tid) ∨ ∃ fver fl fc, fv = .sl fid fver 0 fr.length fl ∧ H[fid]? = some (.rw fver 1 fc) ∧ fc.take fr.length = fr.map (fun (i : Nat) => AV.int .i64 (i : Int)) ∧ B ≤ fid ∧ fid ≠ tid ∧ fid ≠ lid
/-- The trie's blocks. -/
structure Hp (B : Nat) (H : Heap) (tid : Nat) (w many : Int) (lid lv : Nat) (lm : Bool) (fid : Nat) (fv : AV) (lc : List AV) (nn : Nat) (fr : List Nat) : Prop where
  top : H[tid]? = some (.rw 0 4 [.int .i64 w, .int .i64 many, .sl lid lv 0 nn lm, fv])
  nod : H[lid]? = some (.rw lv 3 lc)
  len : lc.length = nn * 3
  fre : FreeIs B H tid lid fid fv fr
  b1 : B ≤ tid
  b2 : B ≤ lid
  ne : lid ≠ tid
  small : nn < 1000000
variable {B tid : Nat} {w many : Int} {lid lv : Nat} {lm : Bool} {fid : Nat} {fv : AV} {lc : List AV} {nn : Nat} {fr : List Nat} {N : List Bool → Nat} {T : List Bool → Int}
theorem Hp.sees (h : Hp B H tid w many lid lv lm fid fv lc nn fr) (r : Rep lc nn fr N T) : Sees H tid w many lid lv lm fv lc nn fr N T := ⟨Heap.cells_of h.top, Heap.cells_of h.nod, r, h.small⟩
theorem FreeIs.keep {H' : Heap} (h : FreeIs B H tid lid fid fv fr) (hk : ∀ i, i = fid → i ≠ tid → i ≠ lid → H'[i]? = H[i]?) : FreeIs B H' tid lid fid fv fr := by
  rcases h with h | ⟨fver, fl, fc, h1, h2, h3, h4, h5, h6⟩
  · exact Or.inl h
  · exact Or.inr ⟨fver, fl, fc, h1, by rw [hk fid rfl h5 h6]; exact h2, h3, h4, h5, h6⟩
theorem FreeIs.lenV (h : FreeIs B H tid lid fid fv fr) : lenV H fv = some (.int .i64 (fr.length : Int)) := by
  rcases h with ⟨rfl, rfl, _⟩ | ⟨fver, fl, fc, rfl, h2, _⟩
  · rfl
  · simp [Go.AM.lenV, Heap.cells_of h2]
theorem Hp.app (h : Hp B H tid w many lid lv lm fid fv lc nn fr) (L : Heap) : Hp B (H ++ L) tid w many lid lv lm fid fv lc nn fr := by
  refine ⟨Heap.app_of h.top L, Heap.app_of h.nod L, h.len, ?_, h.b1, h.b2, h.ne, h.small⟩
  rcases h.fre with h | ⟨fver, fl, fc, h1, h2, h3⟩
  · exact Or.inl h
  · exact Or.inr ⟨fver, fl, fc, h1, Heap.app_of h2 L, h3⟩
/-- The blocks that are the trie's. -/
def own (tid lid fid : Nat) : List Nat := [tid, lid, fid]

theorem ev_fresh (hp : Hp B H tid w many lid lv lm fid fv lc nn fr) (hB : lim ≤ B) (hfr : ∀ j, j ∈ fr → j < nn) (hfl : fr.length ≤ nn) (hnn : nn + 1 < 1000000) :
    ∃ (j : Nat) (H' : Heap) (lid' lv' : Nat) (lm' : Bool) (fv' : AV) (lc1 : List AV) (nn1 : Nat) (fr1 : List Nat),
      ev (PX hook) lim 39 [.ptr tid 0 0] H = some (.int .i64 (j : Int), H') ∧ Hp B H' tid w many lid' lv' lm' fid fv' lc1 nn1 fr1 ∧ (lid' = lid ∨ H.length ≤ lid') ∧ Kept (own tid lid fid) H H' ∧
      ((fr = fr1 ++ [j] ∧ nn1 = nn ∧ lc1 = zero3 lc j) ∨ (fr = [] ∧ fr1 = [] ∧ j = nn ∧ nn1 = nn + 1 ∧ lc1 = lc ++ [.int .i64 0, .int .i64 0, .int .i64 0])) := by
  have ht := Heap.lt_of hp.top
  have hsm := hp.small
  have hb1 := hp.b1
  have hb2 := hp.b2
  have hlenV := hp.fre.lenV
  have c1 := Heap.cells_of hp.top
  have c2 := Heap.cells_of hp.nod
  rcases List.eq_nil_or_concat fr with he | ⟨fr1, j, rfl⟩
  · -- none is free
    have z : decide ((0 : Int) < ((0 : Nat) : Int)) = false := by decide
    rw [he] at hlenV
    simp only [List.length_nil] at hlenV
    obtain ⟨lid', lv', H1, ha, hn1, hid, hlen, hk⟩ := append_ex (bytes := 24) (lim := lim) (l := lm) (xs := lc) (ys := [.int .i64 0, .int .i64 0, .int .i64 0]) (n := nn) hp.nod (by omega) (by rw [hp.len]; exact Nat.le_refl _) (List.take_of_length_le (by rw [hp.len]; exact Nat.le_refl _)) rfl (by omega)
    have top1 : H1[tid]? = some (.rw 0 4 [.int .i64 w, .int .i64 many, .sl lid lv 0 nn lm, fv]) := by rw [hk tid ht (fun g => hp.ne g.symm)]; exact hp.top
    have c3 := Heap.cells_of top1
    obtain ⟨H2, hw, top2, hk2, hl2⟩ := Heap.write_ex (lim := lim) (o := 2) (vs := [.sl lid' lv' 0 (nn + 1) false]) top1 (by omega) (by simp)
    simp only [go_sem, Nat.reduceAdd, Nat.reduceMul, Nat.reduceSub, Nat.reduceBEq, Nat.reduceEqDiff, Nat.reduceLeDiff, Nat.reduceLT, Nat.reduceBneDiff, Int.reduceAdd, Int.cast_ofNat_Int, Int.toNat_natCast, Int.reduceLE, Int.reduceLT, Int.reduceToNat, Int.reduceEq, ↓reduceIte] at top2
    have c4 := Heap.cells_of top2
    have ltid : lid' ≠ tid := by rcases hid with h | h; · rw [h]; exact hp.ne
                                 · omega
    have hn2 : H2[lid']? = some (.rw lv' 3 (lc ++ [.int .i64 0, .int .i64 0, .int .i64 0])) := by rw [hk2 _ ltid]; exact hn1
    have c5 := Heap.cells_of hn2
    have a1 : IntKind.wrap .i64 (((nn + 1 : Nat) : Int) - 1) = (nn : Int) := by rw [wrap_i64] <;> omega
    have kept : Kept (own tid lid fid) H H2 := by
      refine ⟨by omega, fun i hi hn => ?_⟩
      simp only [own, List.mem_cons, List.not_mem_nil, or_false, not_or] at hn
      rw [hk2 i hn.1, hk i hi hn.2.1]
    refine ⟨nn, H2, lid', lv', false, fv, lc ++ [.int .i64 0, .int .i64 0, .int .i64 0], nn + 1, [], ?_, ?_, ?_, kept, Or.inr ⟨he, rfl, rfl, rfl, rfl⟩⟩
    · refine ev_raw _ (PF t39) rfl rfl ?_
      simp only [f39, go_sem, Nat.reduceAdd, Nat.reduceMul, Nat.reduceSub, Nat.reduceBEq, Nat.reduceEqDiff, Nat.reduceLeDiff, Nat.reduceLT, Nat.reduceBneDiff, Int.reduceAdd, Int.cast_ofNat_Int, Int.toNat_natCast, Int.reduceLE, Int.reduceLT, Int.reduceToNat, Int.reduceEq, ↓reduceIte, c1, hlenV, z, c2, ha, c3, hw, c4, c5, a1]
    · refine ⟨top2, hn2, by simp [hp.len]; omega, ?_, hp.b1, ?_, ltid, hnn⟩
      · rw [he] at hp
        rcases hp.fre with ⟨_, h2, h3⟩ | ⟨fver, fl, fc, h1, h2, h3, h4, h5, h6⟩
        · exact Or.inl ⟨rfl, h2, h3⟩
        · have hf := Heap.lt_of h2
          refine Or.inr ⟨fver, fl, fc, h1, ?_, h3, h4, h5, ?_⟩
          · rw [hk2 _ h5, hk _ hf h6]; exact h2
          · rcases hid with h | h; · rw [h]; exact h6
            · omega
      · rcases hid with h | h <;> omega
    · rcases hid with h | h; · exact Or.inl h
      · right; omega
  · -- one is free
    rw [List.concat_eq_append] at *
    have hj := hfr j (by simp)
    rcases hp.fre with ⟨h1, _⟩ | ⟨fver, fl, fc, rfl, h2, h3, h4, h5, h6⟩
    · simp at h1
    · have hf := Heap.lt_of h2
      have hfc : fc[fr1.length]? = some (.int .i64 (j : Int)) := by
        have := congrArg (fun l => l[fr1.length]?) h3
        simpa using this
      have hn : (fr1 ++ [j]).length = fr1.length + 1 := by simp
      rw [hn] at hlenV c1 h3 hfl
      have c6 := Heap.cells_of h2
      have sl := sliceV_hi (l := fl) (n := fr1.length + 1) h2 fr1.length (by omega)
      have top0 := hp.top
      rw [hn] at top0
      obtain ⟨H1, hw, top1, hk1, hl1⟩ := Heap.write_ex (lim := lim) (o := 3) (vs := [.sl fid fver 0 fr1.length (fl && fr1.length == fr1.length + 1)]) top0 (by omega) (by simp)
      simp only [go_sem, Nat.reduceAdd, Nat.reduceMul, Nat.reduceSub, Nat.reduceBEq, Nat.reduceEqDiff, Nat.reduceLeDiff, Nat.reduceLT, Nat.reduceBneDiff, Int.reduceAdd, Int.cast_ofNat_Int, Int.toNat_natCast, Int.reduceLE, Int.reduceLT, Int.reduceToNat, Int.reduceEq, ↓reduceIte] at top1
      have c3 := Heap.cells_of top1
      have nod1 : H1[lid]? = some (.rw lv 3 lc) := by rw [hk1 _ hp.ne]; exact hp.nod
      have c4 := Heap.cells_of nod1
      have hlen := hp.len
      obtain ⟨H2, hw2, nod2, hk2, hl2⟩ := Heap.write_ex (lim := lim) (o := j * 3) (vs := [.int .i64 0, .int .i64 0, .int .i64 0]) nod1 (by omega) (by simp; omega)
      have z : decide ((0 : Int) < ((fr1.length + 1 : Nat) : Int)) = true := by rw [decide_eq_true_eq]; omega
      have a1 : IntKind.wrap .i64 (((fr1.length + 1 : Nat) : Int) - 1) = (fr1.length : Int) := by rw [wrap_i64] <;> omega
      have a2 : (0 : Int) ≤ (fr1.length : Int) := by omega
      have a3 : (fr1.length : Int) < ((fr1.length + 1 : Nat) : Int) := by omega
      have a4 : (0 : Int) ≤ (j : Int) := by omega
      have a5 : (j : Int) < (nn : Int) := by omega
      refine ⟨j, H2, lid, lv, lm, .sl fid fver 0 fr1.length (fl && fr1.length == fr1.length + 1), zero3 lc j, nn, fr1, ?_, ?_, Or.inl rfl, ?_, Or.inl ⟨rfl, rfl, rfl⟩⟩
      · refine ev_raw _ (PF t39) rfl rfl ?_
        simp only [f39, go_sem, Nat.reduceAdd, Nat.reduceMul, Nat.reduceSub, Nat.reduceBEq, Nat.reduceEqDiff, Nat.reduceLeDiff, Nat.reduceLT, Nat.reduceBneDiff, Int.reduceAdd, Int.cast_ofNat_Int, Int.toNat_natCast, Int.reduceLE, Int.reduceLT, Int.reduceToNat, Int.reduceEq, ↓reduceIte, c1, hlenV, z, c6, a1, a2, a3, hfc, sl, hw, c3, c4, a4, a5, hw2]
      · refine ⟨by rw [hk2 _ (fun g => hp.ne g.symm)]; exact top1, nod2, by rw [zero3_len]; exact hp.len, ?_, hp.b1, hp.b2, hp.ne, hp.small⟩
        refine Or.inr ⟨fver, _, fc, rfl, ?_, ?_, h4, h5, h6⟩
        · rw [hk2 _ h6, hk1 _ h5]; exact h2
        · have := congrArg (List.take fr1.length) h3
          rw [List.take_take, Nat.min_eq_left (by omega)] at this
          rw [this]; simp
      · refine ⟨by omega, fun i hi hn => ?_⟩
        simp only [own, List.mem_cons, List.not_mem_nil, or_false, not_or] at hn
        rw [hk2 i hn.2.1, hk1 i hn.1]
end Go.Proofs.Ytdapdfaejemgdaa.C
