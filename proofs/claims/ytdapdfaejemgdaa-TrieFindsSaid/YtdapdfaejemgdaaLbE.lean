/- A TRIE THAT STANDS: Drop; no node leads to nothing. Conditions: none. -/
import Derived.Test.YtdapdfaejemgdaaLbD
set_option linter.unusedVariables false
set_option linter.unusedSimpArgs false
namespace Go.AM
/-- No node leads to nothing. -/
def Tight (N : List Bool → Nat) (T : List Bool → Int) : Prop := ∀ q, N q ≠ 0 → q = [] ∨ ∃ r, T (q ++ r) ≠ 0
theorem tight_put {N N' : List Bool → Nat} {T : List Bool → Int} {p : List Bool} {x : Int} (h : Tight N T) (hx : x ≠ 0) (hN : ∀ q, N' q ≠ 0 ↔ N q ≠ 0 ∨ q <+: p) : Tight N' (fun q => if q = p then x else T q) := by
  intro q hq
  rcases (hN q).1 hq with h1 | ⟨r, h1⟩
  · rcases h q h1 with h2 | ⟨r, h2⟩
    · exact Or.inl h2
    · right
      refine ⟨r, ?_⟩
      simp only
      split
      · exact hx
      · exact h2
  · right
    exact ⟨r, by simp [h1, hx]⟩
theorem tight_drop {N N' : List Bool → Nat} {T : List Bool → Int} {a : Adr} {n k : Nat} (h : Tight N T) (hk : k ≤ n) (hN : ∀ q, N' q = if k < q.length ∧ q <+: pth a n then 0 else N q)
    (hlast : k = 0 ∨ (if pth a k = pth a n then 0 else T (pth a k)) ≠ 0 ∨ ∃ c, N' (pth a k ++ [c]) ≠ 0) : Tight N' (fun q => if q = pth a n then 0 else T q) := by
  -- the last node that stays on the way leads to something
  have key : k = 0 ∨ ∃ r, (if pth a k ++ r = pth a n then 0 else T (pth a k ++ r)) ≠ 0 := by
    rcases hlast with h1 | h1 | ⟨c, h1⟩
    · exact Or.inl h1
    · right; exact ⟨[], by simpa using h1⟩
    · right
      rw [hN] at h1
      by_cases e : k < (pth a k ++ [c]).length ∧ pth a k ++ [c] <+: pth a n
      · rw [if_pos e] at h1; exact absurd rfl h1
      · rw [if_neg e] at h1
        have e' : ¬ (pth a k ++ [c] <+: pth a n) := fun g => e ⟨by rw [List.length_append, pth_length]; simp, g⟩
        rcases h _ h1 with h2 | ⟨r, h2⟩
        · simp at h2
        · refine ⟨[c] ++ r, ?_⟩
          rw [← List.append_assoc, if_neg]
          · exact h2
          · intro g; exact e' ⟨r, g⟩
  intro q hq
  rw [hN] at hq
  by_cases e : k < q.length ∧ q <+: pth a n
  · rw [if_pos e] at hq; exact absurd rfl hq
  · rw [if_neg e] at hq
    rcases h q hq with h2 | ⟨r, h2⟩
    · exact Or.inl h2
    · by_cases g : q ++ r = pth a n
      · have hp : q <+: pth a n := ⟨r, g⟩
        have hle : q.length ≤ k := by
          apply Nat.le_of_not_lt; intro g'; exact e ⟨g', hp⟩
        rcases key with h3 | ⟨s, h3⟩
        · left; exact List.eq_nil_of_length_eq_zero (by omega)
        · right
          have hpk : q <+: pth a k := by
            obtain ⟨j, hj, rfl⟩ : ∃ j, j ≤ n ∧ q = pth a j := by
              refine ⟨q.length, by have := hp.length_le; rwa [pth_length] at this, ?_⟩
              obtain ⟨u, hu⟩ := hp
              apply List.ext_getElem?
              intro i
              by_cases hi : i < q.length
              · have := congrArg (fun l => l[i]?) hu
                rw [List.getElem?_append_left hi, pth_get _ _ _ (by have := congrArg List.length hu; rw [List.length_append, pth_length] at this; omega)] at this
                rw [this, pth_get _ _ _ hi]
              · rw [List.getElem?_eq_none (by omega), List.getElem?_eq_none (by rw [pth_length]; omega)]
            rw [pth_length] at hle
            exact pth_prefix_iff.2 ⟨hle, fun _ _ => rfl⟩
          obtain ⟨u, hu⟩ := hpk
          refine ⟨u ++ s, ?_⟩
          simp only
          rw [← List.append_assoc, hu]
          exact h3
      · right; exact ⟨r, by simp only [g, if_false]; exact h2⟩
end Go.AM
namespace Go.Proofs.Ytdapdfaejemgdaa.C
open Go.AM
variable {hook : Nat → Nat → List AV → Heap → Option (AV × Heap)} {lim : Nat} {H : Heap}
variable {B tid : Nat} {w many : Int} {nb : Nat} {N : List Bool → Nat} {T : List Bool → Int} {O : List Nat}
theorem St_Drop (h : TrieSt B H tid w many nb N T O) (hB : lim ≤ B) (ht : Tight N T) (a : Adr) (n : Int) (hr : rightP w a n = true) (hx : T (pth a n.toNat) ≠ 0) (hm0 : 1 ≤ many ∧ many ≤ 256) :
    ∃ H' N' O', ev (PX hook) lim 31 [.ptr tid 0 0, .agg [u64 (hi a), u64 (lo a), .int .i64 n]] H = some (.int .i64 0, H') ∧
      TrieSt B H' tid w (many - 1) nb N' (fun q => if q = pth a n.toNat then 0 else T q) O' ∧ Kept O H H' ∧ (∀ i, i ∈ O' → i ∈ O ∨ H.length ≤ i) ∧ Tight N' (fun q => if q = pth a n.toNat then 0 else T q) := by
  obtain ⟨⟨lid, lv, lm, fid, fv, lc, nn, fr, hp, r, hn, rfl⟩, hpos⟩ := h
  obtain ⟨H', k, lid', lv', lm', fid', fv', lc', nn', fr', N', h1, h2, h3, h4, h5, h6, h7, h8, h9, h10⟩ := ev_Drop_ok (hook := hook) hp r hB a n hr hx hm0
  refine ⟨H', N', own tid lid' fid', h1, ⟨⟨lid', lv', lm', fid', fv', lc', nn', fr', h2, h3, by omega, rfl⟩, ?_⟩, h4, ?_, tight_drop ht h8 h9 h10⟩
  · intro q
    (try simp only)
    split
    · exact Int.le_refl _
    · exact hpos q
  · intro i hi
    simp only [own, List.mem_cons, List.not_mem_nil, or_false] at hi ⊢
    rcases hi with rfl | rfl | rfl
    · exact Or.inl (Or.inl rfl)
    · exact Or.inl (Or.inr (Or.inl h5))
    · rcases h6 with rfl | g
      · exact Or.inl (Or.inr (Or.inr rfl))
      · exact Or.inr g
theorem St_Drop_bad (h : TrieSt B H tid w many nb N T O) (a : Adr) (n : Int) (hr : rightP w a n = false) :
    ∃ L, ev (PX hook) lim 31 [.ptr tid 0 0, .agg [u64 (hi a), u64 (lo a), .int .i64 n]] H = some (.int .i64 1, H ++ L) := by
  obtain ⟨⟨lid, lv, lm, fid, fv, lc, nn, fr, hp, r, hn, rfl⟩, hpos⟩ := h
  exact ev_Drop_bad hp a n hr
theorem St_Drop_absent (h : TrieSt B H tid w many nb N T O) (hB : lim ≤ B) (a : Adr) (n : Int) (hr : rightP w a n = true) (ht : T (pth a n.toNat) = 0) :
    ∃ L, ev (PX hook) lim 31 [.ptr tid 0 0, .agg [u64 (hi a), u64 (lo a), .int .i64 n]] H = some (.int .i64 2, H ++ L) := by
  obtain ⟨⟨lid, lv, lm, fid, fv, lc, nn, fr, hp, r, hn, rfl⟩, hpos⟩ := h
  exact ev_Drop_absent hp r hB a n hr ht
end Go.Proofs.Ytdapdfaejemgdaa.C
