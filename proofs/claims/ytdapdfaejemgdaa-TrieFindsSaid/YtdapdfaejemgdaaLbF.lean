/- ONE CALL ON BOTH SIDES: the trie and the document's table. Conditions: none. -/
import Derived.Test.YtdapdfaejemgdaaLbE
import Derived.Test.YtdapdfaejemgdaaLbP
set_option linter.unusedVariables false
set_option linter.unusedSimpArgs false
namespace Go.Proofs.Ytdapdfaejemgdaa.C
open Go.AM
variable {hook : Nat → Nat → List AV → Heap → Option (AV × Heap)} {lim : Nat} {H : Heap}
variable {B tid : Nat} {w : Int} {nb : Nat} {N : List Bool → Nat} {O : List Nat} {tb : List Rt}
/-- The trie holds a table. -/
structure Holds (B : Nat) (H : Heap) (tid : Nat) (w : Int) (tb : List Rt) (nb : Nat) (N : List Bool → Nat) (O : List Nat) : Prop where
  st : TrieSt B H tid w (tb.length : Int) nb N (tOf tb) O
  ok : Okay w tb
  once : Once tb
  tight : Tight N (tOf tb)
theorem find_some {w' : Int} (hl : Okay w tb) {a : Adr} {n : Int} (g : rightP w' a n = true) : (rFind a n tb).isSome = decide (tOf tb (pth a n.toNat) ≠ 0) := by
  rw [rFind_spec hl g]
  by_cases h : tOf tb (pth a n.toNat) = 0 <;> simp [h]
theorem Holds.more (h : Holds B H tid w tb nb N O) (L : Heap) : Holds B (H ++ L) tid w tb nb N O := ⟨h.st.more L, h.ok, h.once, h.tight⟩
theorem Holds.mono {nb' : Nat} (h : Holds B H tid w tb nb N O) (hn : nb ≤ nb') : Holds B H tid w tb nb' N O := by
  obtain ⟨⟨⟨lid, lv, lm, fid, fv, lc, nn, fr, hp, r, hle, ho⟩, hpos⟩, h2, h3, h4⟩ := h
  exact ⟨⟨⟨lid, lv, lm, fid, fv, lc, nn, fr, hp, r, by omega, ho⟩, hpos⟩, h2, h3, h4⟩
theorem both_put (h : Holds B H tid w tb nb N O) (hB : lim ≤ B) (r : Rt) (hlen : tb.length < 256) (hnb : nb + 128 < 1000000) :
    ∃ H' N' O', ev (PX hook) lim 10 [.ptr tid 0 0, .agg [u64 (hi r.a), u64 (lo r.a), .int .i64 r.n, .int .i64 r.x]] H = some (.tup [.bool (doOp w tb 0 r).2.1, .int .i64 (doOp w tb 0 r).2.2], H') ∧
      Holds B H' tid w (doOp w tb 0 r).1 (nb + 128) N' O' ∧ Kept O H H' ∧ ∀ i, i ∈ O' → i ∈ O ∨ H.length ≤ i := by
  cases hr : rightR w r.a r.n r.x
  · obtain ⟨L, hp⟩ := St_Put_bad (hook := hook) (lim := lim) h.st r.a r.n r.x hr
    have e : doOp w tb 0 r = (tb, false, 1) := by unfold doOp; rw [if_pos rfl, if_pos hr]
    rw [e]
    exact ⟨H ++ L, N, O, hp, (h.more L).mono (by omega), Kept.app _ _ _, fun i hi => Or.inl hi⟩
  · have hp := (rightR_P hr).1
    have e : doOp w tb 0 r = (rPut r tb, (rFind r.a r.n tb).isSome, 0) := by unfold doOp; rw [if_pos rfl, if_neg (by simp [hr]), if_neg (by omega)]
    rw [e, find_some h.ok hp]
    obtain ⟨H', N', O', h1, h2, h3, h4, h5⟩ := St_Put (hook := hook) (lim := lim) h.st hB r.a r.n r.x hr (Or.inr (by omega)) (by omega) hnb
    refine ⟨H', N', O', h1, ⟨?_, okay_put h.ok hr, once_put h.ok h.once hr, ?_⟩, h3, h4⟩
    · have eT : (fun q => if q = pth r.a r.n.toNat then r.x else tOf tb q) = tOf (rPut r tb) := funext fun q => (tOf_put h.ok hr q).symm
      have eL : (if tOf tb (pth r.a r.n.toNat) ≠ 0 then (tb.length : Int) else (tb.length : Int) + 1) = ((rPut r tb).length : Int) := by
        rw [put_len h.ok h.once hr]
        show (if tOf tb r.way ≠ 0 then (tb.length : Int) else (tb.length : Int) + 1) = _
        split <;> rfl
      rw [eT, eL] at h2
      exact h2
    · have eT : (fun q => if q = pth r.a r.n.toNat then r.x else tOf tb q) = tOf (rPut r tb) := funext fun q => (tOf_put h.ok hr q).symm
      rw [← eT]
      exact tight_put h.tight (by have := (rightR_P hr).2; omega) h5
theorem both_drop (h : Holds B H tid w tb nb N O) (hB : lim ≤ B) (r : Rt) (hlen : tb.length ≤ 256) {k : Int} (hk : k ≠ 0) :
    ∃ H' N' O', ev (PX hook) lim 31 [.ptr tid 0 0, .agg [u64 (hi r.a), u64 (lo r.a), .int .i64 r.n]] H = some (.int .i64 (doOp w tb k r).2.2, H') ∧
      Holds B H' tid w (doOp w tb k r).1 nb N' O' ∧ Kept O H H' ∧ ∀ i, i ∈ O' → i ∈ O ∨ H.length ≤ i := by
  cases hr : rightP w r.a r.n
  · obtain ⟨L, hp⟩ := St_Drop_bad (hook := hook) (lim := lim) h.st r.a r.n hr
    have e : doOp w tb k r = (tb, false, 1) := by unfold doOp; rw [if_neg hk, if_pos hr]
    rw [e]
    exact ⟨H ++ L, N, O, hp, h.more L, Kept.app _ _ _, fun i hi => Or.inl hi⟩
  · by_cases ht : tOf tb (pth r.a r.n.toNat) = 0
    · obtain ⟨L, hp⟩ := St_Drop_absent (hook := hook) (lim := lim) h.st hB r.a r.n hr ht
      have e : doOp w tb k r = (tb, false, 2) := by
        unfold doOp; rw [if_neg hk, if_neg (by simp [hr]), if_pos (by rw [find_some h.ok hr]; simp [ht])]
      rw [e]
      exact ⟨H ++ L, N, O, hp, h.more L, Kept.app _ _ _, fun i hi => Or.inl hi⟩
    · have hds := drop_some h.ok h.once hr ht
      have e : doOp w tb k r = (rDrop r.a r.n tb, false, 0) := by
        unfold doOp; rw [if_neg hk, if_neg (by simp [hr]), if_neg (by rw [find_some h.ok hr]; simp [ht])]
      rw [e]
      obtain ⟨H', N', O', h1, h2, h3, h4, h5⟩ := St_Drop (hook := hook) (lim := lim) h.st hB h.tight r.a r.n hr ht (by omega)
      have eT : (fun q => if q = pth r.a r.n.toNat then 0 else tOf tb q) = tOf (rDrop r.a r.n tb) := funext fun q => (tOf_drop h.ok hr q).symm
      rw [eT] at h2 h5
      have eL : (tb.length : Int) - 1 = ((rDrop r.a r.n tb).length : Int) := by omega
      rw [eL] at h2
      exact ⟨H', N', O', h1, ⟨h2, okay_drop h.ok _ _, once_drop h.once _ _, h5⟩, h3, h4⟩
end Go.Proofs.Ytdapdfaejemgdaa.C
