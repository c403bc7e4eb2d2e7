/- A TRIE THAT STANDS: made, put into, looked at; the law's own 'awake'. Conditions: none. -/
import Derived.Test.YtafonoekobkcdaaLbW
set_option linter.unusedVariables false
set_option linter.unusedSimpArgs false
namespace Go.AM
/-- How many nodes there are. -/
theorem Rep.count {lc : List AV} {nn : Nat} {fr : List Nat} {N : List Bool → Nat} {T : List Bool → Int} (h : Rep lc nn fr N T) (all : List (List Bool)) (hd : all.Nodup) (hm : ∀ q, q ∈ all ↔ N q ≠ 0) : all.length + fr.length + 1 = nn := by
  have hn := h.lt []
  have p : List.Perm (0 :: (all.map N ++ fr)) (List.range nn) := by
    rw [List.perm_ext_iff_of_nodup]
    · intro i
      rw [List.mem_cons, List.mem_append, List.mem_map, List.mem_range, h.free]
      constructor
      · rintro (rfl | ⟨q, _, rfl⟩ | ⟨_, h2, _⟩)
        · omega
        · exact h.lt q
        · exact h2
      · intro hi
        by_cases h0 : i = 0
        · exact Or.inl h0
        · right
          by_cases e : ∃ q, N q = i
          · obtain ⟨q, rfl⟩ := e
            exact Or.inl ⟨q, (hm q).2 h0, rfl⟩
          · exact Or.inr ⟨by omega, hi, fun q g => e ⟨q, g⟩⟩
    · rw [List.nodup_cons]
      constructor
      · rw [List.mem_append, List.mem_map]
        rintro (⟨q, hq, h0⟩ | h0)
        · exact (hm q).1 hq h0
        · have := (h.free 0).1 h0; omega
      · rw [List.nodup_append]
        refine ⟨?_, h.nodup, ?_⟩
        · rw [List.Nodup, List.pairwise_map]
          refine List.Pairwise.imp_of_mem ?_ hd
          intro q r hq hr hne he
          exact hne (h.inj q r ((hm q).1 hq) he)
        · intro i hi j hj e
          subst e
          rw [List.mem_map] at hi
          obtain ⟨q, hq, rfl⟩ := hi
          exact ((h.free _).1 hj).2.2 q rfl
    · exact List.nodup_range
  have := p.length_eq
  simp at this
  omega
end Go.AM
namespace Go.Proofs.Ytafonoekobkcdaa.C
open Go.AM
variable {hook : Nat → Nat → List AV → Heap → Option (AV × Heap)} {lim : Nat} {H : Heap}
/-- A trie that stands. -/
structure TrieSt (B : Nat) (H : Heap) (tid : Nat) (w many : Int) (nb : Nat) (N : List Bool → Nat) (T : List Bool → Int) (O : List Nat) : Prop where
  ex : ∃ lid lv lm fid fv lc nn fr, Hp B H tid w many lid lv lm fid fv lc nn fr ∧ Rep lc nn fr N T ∧ nn ≤ nb ∧ O = own tid lid fid
  pos : ∀ q, 0 ≤ T q
variable {B tid : Nat} {w many : Int} {nb : Nat} {N : List Bool → Nat} {T : List Bool → Int} {O : List Nat}
theorem TrieSt.lt (h : TrieSt B H tid w many nb N T O) : ∀ i, i ∈ O → i < H.length := by
  obtain ⟨lid, lv, lm, fid, fv, lc, nn, fr, hp, r, hn, rfl⟩ := h.ex
  intro i hi
  simp only [own, List.mem_cons, List.not_mem_nil, or_false] at hi
  rcases hi with rfl | rfl | rfl
  · exact Heap.lt_of hp.top
  · exact Heap.lt_of hp.nod
  · rcases hp.fre with ⟨_, _, rfl⟩ | ⟨fver, fl, fc, _, h2, _⟩
    · exact Heap.lt_of hp.top
    · exact Heap.lt_of h2
theorem TrieSt.ge (h : TrieSt B H tid w many nb N T O) : ∀ i, i ∈ O → B ≤ i := by
  obtain ⟨lid, lv, lm, fid, fv, lc, nn, fr, hp, r, hn, rfl⟩ := h.ex
  intro i hi
  simp only [own, List.mem_cons, List.not_mem_nil, or_false] at hi
  rcases hi with rfl | rfl | rfl
  · exact hp.b1
  · exact hp.b2
  · rcases hp.fre with ⟨_, _, rfl⟩ | ⟨fver, fl, fc, _, h2, _, h4, _⟩
    · exact hp.b1
    · exact h4
theorem TrieSt.more (h : TrieSt B H tid w many nb N T O) (L : Heap) : TrieSt B (H ++ L) tid w many nb N T O := by
  obtain ⟨lid, lv, lm, fid, fv, lc, nn, fr, hp, r⟩ := h.ex
  exact ⟨⟨lid, lv, lm, fid, fv, lc, nn, fr, hp.app L, r⟩, h.pos⟩
theorem TrieSt.keep {H' : Heap} {P : List Nat} (h : TrieSt B H tid w many nb N T O) (hk : Kept P H H') (hP : ∀ i, i ∈ O → i ∉ P) : TrieSt B H' tid w many nb N T O := by
  have hlt := h.lt
  obtain ⟨⟨lid, lv, lm, fid, fv, lc, nn, fr, hp, r, hn, rfl⟩, hpos⟩ := h
  have k1 : ∀ i, i ∈ own tid lid fid → H'[i]? = H[i]? := fun i hi => hk.2 i (hlt i hi) (hP i hi)
  refine ⟨⟨lid, lv, lm, fid, fv, lc, nn, fr, ?_, r, hn, rfl⟩, hpos⟩
  refine ⟨by rw [k1 _ (by simp [own])]; exact hp.top, by rw [k1 _ (by simp [own])]; exact hp.nod, hp.len, hp.fre.keep fun i hi _ _ => ?_, hp.b1, hp.b2, hp.ne, hp.small⟩
  rw [hi]; exact k1 _ (by simp [own])
theorem TrieSt.top (h : TrieSt B H tid w many nb N T O) : (H.cells tid 0).isSome = true := by
  obtain ⟨lid, lv, lm, fid, fv, lc, nn, fr, hp, r⟩ := h.ex
  rw [Heap.cells_of hp.top]; rfl

def noN : List Bool → Nat := fun q => if q = [] then 1 else 0
theorem fams (w : Int) (h : family w = true) : ∃ n : Nat, w = (n : Int) ∧ n ≤ 128 := by
  rw [family_iff] at h
  rcases h with rfl | rfl
  · exact ⟨32, rfl, by omega⟩
  · exact ⟨128, rfl, by omega⟩

theorem prefix_pth {q : List Bool} {a : Adr} {n : Nat} : q <+: pth a n ↔ ∃ k, k ≤ n ∧ q = pth a k := by
  constructor
  · intro h
    have hl := h.length_le
    rw [pth_length] at hl
    refine ⟨q.length, hl, ?_⟩
    obtain ⟨r, hr⟩ := h
    apply List.ext_getElem?
    intro j
    by_cases hj : j < q.length
    · have := congrArg (fun l => l[j]?) hr
      rw [List.getElem?_append_left hj, pth_get _ _ _ (by omega)] at this
      rw [this, pth_get _ _ _ hj]
    · rw [List.getElem?_eq_none (by omega), List.getElem?_eq_none (by rw [pth_length]; omega)]
  · rintro ⟨k, hk, rfl⟩
    exact pth_prefix_iff.2 ⟨hk, fun _ _ => rfl⟩
theorem lastB_eq {T : List Bool → Int} {a : Adr} {k n : Nat} (hk : k < n) (h : T (pth a k) ≠ 0) (g : ∀ j, k < j → j < n → T (pth a j) = 0) : lastB T a n = some k := by
  induction n with
  | zero => omega
  | succ n ih =>
    rw [lastB]
    by_cases e : k = n
    · subst e; rw [if_pos h]
    · rw [if_neg (fun x => x (g n (by omega) (by omega)))]
      exact ih (by omega) fun j h1 h2 => g j h1 (by omega)
def aA : Adr := mkA 720575940379279360#64 0#64
def aB : Adr := mkA 720575940379279365#64 0#64
theorem awake_bits : ∀ k, k < 8 → bitA (cutA aA 8) k = bitA aB k := by decide +kernel
theorem awake_right : rightR 32 (cutA aA 8) 8 7 = true := by decide +kernel
def awT : List Bool → Int := fun q => if q = pth (cutA aA 8) 8 then 7 else 0
theorem awT_best : lastB awT aB 33 = some 8 := by
  apply lastB_eq (by omega)
  · unfold awT; rw [if_pos (pth_congr fun j hj => (awake_bits j hj).symm)]; omega
  · intro j h1 h2
    unfold awT; rw [if_neg]
    intro g
    have := congrArg List.length g
    rw [pth_length, pth_length] at this; omega
end Go.Proofs.Ytafonoekobkcdaa.C
