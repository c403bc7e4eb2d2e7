/- A TRIE THAT STANDS: made, put into, looked at; the law's own 'awake'. Conditions: none. -/
import Derived.Test.YtdapdfaejemgdaaLbW
set_option linter.unusedVariables false
set_option linter.unusedSimpArgs false
namespace Go.AM
/-- How many nodes there are. -/
theorem Rep.count {lc : List AV} {nn : Nat} {fr : List Nat} {N : List Bool → Nat} {T : List Bool → Int} (h : Rep lc nn fr N T) (all : List (List Bool)) (hd : all.Nodup) (hm : ∀ q, q ∈ all ↔ N q ≠ 0) : all.length + fr.length + 1 = nn := by
  have hn := h.lt []
  have p : List.Perm (0 :: (all.map N ++ fr)) (List.range nn) := by
    rw [List.perm_ext_iff_of_nodup]
    · intro i
      rw [List.mem_cons, List.mem_append, List.mem_map, List.mem_range, h.free]
      constructor
      · rintro (rfl | ⟨q, _, rfl⟩ | ⟨_, h2, _⟩)
        · omega
        · exact h.lt q
        · exact h2
      · intro hi
        by_cases h0 : i = 0
        · exact Or.inl h0
        · right
          by_cases e : ∃ q, N q = i
          · obtain ⟨q, rfl⟩ := e
            exact Or.inl ⟨q, (hm q).2 h0, rfl⟩
          · exact Or.inr ⟨by omega, hi, fun q g => e ⟨q, g⟩⟩
    · rw [List.nodup_cons]
      constructor
      · rw [List.mem_append, List.mem_map]
        rintro (⟨q, hq, h0⟩ | h0)
        · exact (hm q).1 hq h0
        · have := (h.free 0).1 h0; omega
      · rw [List.nodup_append]
        refine ⟨?_, h.nodup, ?_⟩
        · rw [List.Nodup, List.pairwise_map]
          refine List.Pairwise.imp_of_mem ?_ hd
          intro q r hq hr hne he
          exact hne (h.inj q r ((hm q).1 hq) he)
        · intro i hi j hj e
          subst e
          rw [List.mem_map] at hi
          obtain ⟨q, hq, rfl⟩ := hi
          exact ((h.free _).1 hj).2.2 q rfl
    · exact List.nodup_range
  have := p.length_eq
  simp at this
  omega
end Go.AM
namespace Go.Proofs.Ytdapdfaejemgdaa.C
open Go.AM
variable {hook : Nat → Nat → List AV → Heap → Option (AV × Heap)} {lim : Nat} {H : Heap}
/-- A trie that stands. -/
structure TrieSt (B : Nat) (H : Heap) (tid : Nat) (w many : Int) (nb : Nat) (N : List Bool → Nat) (T : List Bool → Int) (O : List Nat) : Prop where
  ex : ∃ lid lv lm fid fv lc nn fr, Hp B H tid w many lid lv lm fid fv lc nn fr ∧ Rep lc nn fr N T ∧ nn ≤ nb ∧ O = own tid lid fid
  pos : ∀ q, 0 ≤ T q
variable {B tid : Nat} {w many : Int} {nb : Nat} {N : List Bool → Nat} {T : List Bool → Int} {O : List Nat}
theorem TrieSt.lt (h : TrieSt B H tid w many nb N T O) : ∀ i, i ∈ O → i < H.length := by
  obtain ⟨lid, lv, lm, fid, fv, lc, nn, fr, hp, r, hn, rfl⟩ := h.ex
  intro i hi
  simp only [own, List.mem_cons, List.not_mem_nil, or_false] at hi
  rcases hi with rfl | rfl | rfl
  · exact Heap.lt_of hp.top
  · exact Heap.lt_of hp.nod
  · rcases hp.fre with ⟨_, _, rfl⟩ | ⟨fver, fl, fc, _, h2, _⟩
    · exact Heap.lt_of hp.top
    · exact Heap.lt_of h2
theorem TrieSt.ge (h : TrieSt B H tid w many nb N T O) : ∀ i, i ∈ O → B ≤ i := by
  obtain ⟨lid, lv, lm, fid, fv, lc, nn, fr, hp, r, hn, rfl⟩ := h.ex
  intro i hi
  simp only [own, List.mem_cons, List.not_mem_nil, or_false] at hi
  rcases hi with rfl | rfl | rfl
  · exact hp.b1
  · exact hp.b2
  · rcases hp.fre with ⟨_, _, rfl⟩ | ⟨fver, fl, fc, _, h2, _, h4, _⟩
    · exact hp.b1
    · exact h4
theorem TrieSt.more (h : TrieSt B H tid w many nb N T O) (L : Heap) : TrieSt B (H ++ L) tid w many nb N T O := by
  obtain ⟨lid, lv, lm, fid, fv, lc, nn, fr, hp, r⟩ := h.ex
  exact ⟨⟨lid, lv, lm, fid, fv, lc, nn, fr, hp.app L, r⟩, h.pos⟩
theorem TrieSt.keep {H' : Heap} {P : List Nat} (h : TrieSt B H tid w many nb N T O) (hk : Kept P H H') (hP : ∀ i, i ∈ O → i ∉ P) : TrieSt B H' tid w many nb N T O := by
  have hlt := h.lt
  obtain ⟨⟨lid, lv, lm, fid, fv, lc, nn, fr, hp, r, hn, rfl⟩, hpos⟩ := h
  have k1 : ∀ i, i ∈ own tid lid fid → H'[i]? = H[i]? := fun i hi => hk.2 i (hlt i hi) (hP i hi)
  refine ⟨⟨lid, lv, lm, fid, fv, lc, nn, fr, ?_, r, hn, rfl⟩, hpos⟩
  refine ⟨by rw [k1 _ (by simp [own])]; exact hp.top, by rw [k1 _ (by simp [own])]; exact hp.nod, hp.len, hp.fre.keep fun i hi _ _ => ?_, hp.b1, hp.b2, hp.ne, hp.small⟩
  rw [hi]; exact k1 _ (by simp [own])
theorem TrieSt.top (h : TrieSt B H tid w many nb N T O) : (H.cells tid 0).isSome = true := by
  obtain ⟨lid, lv, lm, fid, fv, lc, nn, fr, hp, r⟩ := h.ex
  rw [Heap.cells_of hp.top]; rfl

def noN : List Bool → Nat := fun q => if q = [] then 1 else 0
theorem ev_New_bad (w : Int) (hw : family w = false) : ev (PX hook) lim 9 [.int .i64 w] H = some (.tup [.nilp, .int .i64 1], H) := by
  refine ev_raw _ (PF t9) rfl rfl ?_
  simp only [f9, go_sem, Nat.reduceAdd, Nat.reduceMul, Nat.reduceSub, Nat.reduceBEq, Nat.reduceEqDiff, Nat.reduceLeDiff, Nat.reduceLT, Nat.reduceBneDiff, Int.reduceAdd, Int.cast_ofNat_Int, Int.toNat_natCast, Int.reduceLE, Int.reduceLT, Int.reduceToNat, Int.reduceEq, ↓reduceIte, ev_Family, hw]
theorem ev_New (w : Int) (hw : family w = true) (hl : B ≤ H.length) : ∃ H', ev (PX hook) lim 9 [.int .i64 w] H = some (.tup [.ptr (H.length + 1) 0 0, .int .i64 0], H') ∧ TrieSt B H' (H.length + 1) w 0 2 noN (fun _ => 0) [H.length + 1, H.length, H.length + 1] ∧ Kept [] H H' := by
  refine ⟨H ++ [.rw 0 3 [.int .i64 0, .int .i64 0, .int .i64 0, .int .i64 0, .int .i64 0, .int .i64 0], .rw 0 4 [.int .i64 w, .int .i64 0, .sl H.length 0 0 2 true, .nils]], ?_, ?_, Kept.app _ _ _⟩
  · refine ev_raw _ (PF t9) rfl rfl ?_
    have m1 : mkSliceV H 3 24 [.int .i64 0, .int .i64 0, .int .i64 0] (.int .i64 2) (.int .i64 2) = some (.sl H.length 0 0 2 true, H ++ [.rw 0 3 [.int .i64 0, .int .i64 0, .int .i64 0, .int .i64 0, .int .i64 0, .int .i64 0]]) := by
      simp [mkSliceV, List.replicate]
    simp only [f9, go_sem, Nat.reduceAdd, Nat.reduceMul, Nat.reduceSub, Nat.reduceBEq, Nat.reduceEqDiff, Nat.reduceLeDiff, Nat.reduceLT, Nat.reduceBneDiff, Int.reduceAdd, Int.cast_ofNat_Int, Int.toNat_natCast, Int.reduceLE, Int.reduceLT, Int.reduceToNat, Int.reduceEq, ↓reduceIte, ev_Family, hw, m1]
  · refine ⟨⟨H.length, 0, true, H.length + 1, .nils, [.int .i64 0, .int .i64 0, .int .i64 0, .int .i64 0, .int .i64 0, .int .i64 0], 2, [], ?_, ?_, Nat.le_refl _, rfl⟩, fun _ => Int.le_refl _⟩
    · refine ⟨by simp, by simp, rfl, Or.inl ⟨rfl, rfl, rfl⟩, by omega, hl, by omega, by omega⟩
    · refine ⟨rfl, ⟨rfl, rfl, rfl⟩, rfl, ?_, ?_, ?_, ?_, ?_, List.nodup_nil, ?_⟩
      · intro q; unfold noN; split <;> omega
      · intro q b h; exact absurd (by unfold noN; rw [if_neg (by simp)]) h
      · intro q r hq hr
        unfold noN at hq hr
        by_cases h1 : q = []
        · by_cases h2 : r = []
          · rw [h1, h2]
          · rw [if_pos h1, if_neg h2] at hr; omega
        · rw [if_neg h1] at hq; omega
      · intro q hq
        unfold noN at hq ⊢
        by_cases h1 : q = []
        · subst h1; simp [NodeIs]
        · rw [if_neg h1] at hq; omega
      · intro q _; rfl
      · intro i
        simp only [List.not_mem_nil, false_iff, not_and]
        intro h1 h2 h3
        have := h3 []
        unfold noN at this
        simp at this; omega
/-- A route is put. -/
theorem St_Put (h : TrieSt B H tid w many nb N T O) (hB : lim ≤ B) (a : Adr) (n x : Int) (hr : rightR w a n x = true) (hm : T (pth a n.toNat) ≠ 0 ∨ many < 256) (hm0 : 0 ≤ many ∧ many ≤ 256) (hnb : nb + 128 < 1000000) :
    ∃ H' N' O', ev (PX hook) lim 10 [.ptr tid 0 0, .agg [u64 (hi a), u64 (lo a), .int .i64 n, .int .i64 x]] H = some (.tup [.bool (decide (T (pth a n.toNat) ≠ 0)), .int .i64 0], H') ∧
      TrieSt B H' tid w (if T (pth a n.toNat) ≠ 0 then many else many + 1) (nb + 128) N' (fun q => if q = pth a n.toNat then x else T q) O' ∧
      Kept O H H' ∧ (∀ i, i ∈ O' → i ∈ O ∨ H.length ≤ i) ∧ ∀ q, N' q ≠ 0 ↔ N q ≠ 0 ∨ q <+: pth a n.toNat := by
  obtain ⟨⟨lid, lv, lm, fid, fv, lc, nn, fr, hp, r, hn, rfl⟩, hpos⟩ := h
  obtain ⟨H', lid', lv', lm', fv', lc', nn', fr', N', h1, h2, h3, h4, h5, h6, h7⟩ := ev_Put_ok (hook := hook) hp r hB a n x hr hm hm0 (by omega)
  refine ⟨H', N', own tid lid' fid, h1, ⟨⟨lid', lv', lm', fid, fv', lc', nn', fr', h2, h3, by omega, rfl⟩, ?_⟩, h4, ?_, h7⟩
  · intro q
    by_cases e : q = pth a n.toNat
    · simp only [e, if_true]
      unfold rightR at hr
      simp only [Bool.and_eq_true, decide_eq_true_eq] at hr
      omega
    · simp only [e, if_false]; exact hpos q
  · intro i hi
    simp only [own, List.mem_cons, List.not_mem_nil, or_false] at hi ⊢
    rcases hi with rfl | rfl | rfl
    · exact Or.inl (Or.inl rfl)
    · rcases h5 with rfl | g
      · exact Or.inl (Or.inr (Or.inl rfl))
      · exact Or.inr g
    · exact Or.inl (Or.inr (Or.inr rfl))
theorem St_Put_bad (h : TrieSt B H tid w many nb N T O) (a : Adr) (n x : Int) (hr : rightR w a n x = false) :
    ∃ L, ev (PX hook) lim 10 [.ptr tid 0 0, .agg [u64 (hi a), u64 (lo a), .int .i64 n, .int .i64 x]] H = some (.tup [.bool false, .int .i64 1], H ++ L) := by
  obtain ⟨⟨lid, lv, lm, fid, fv, lc, nn, fr, hp, r, hn, rfl⟩, hpos⟩ := h
  exact ev_Put_bad hp a n x hr
theorem St_Put_many (h : TrieSt B H tid w many nb N T O) (hB : lim ≤ B) (a : Adr) (n x : Int) (hr : rightR w a n x = true) (ht : T (pth a n.toNat) = 0) (hm : 256 ≤ many) :
    ∃ L, ev (PX hook) lim 10 [.ptr tid 0 0, .agg [u64 (hi a), u64 (lo a), .int .i64 n, .int .i64 x]] H = some (.tup [.bool false, .int .i64 6], H ++ L) := by
  obtain ⟨⟨lid, lv, lm, fid, fv, lc, nn, fr, hp, r, hn, rfl⟩, hpos⟩ := h
  exact ev_Put_many hp r hB a n x hr ht hm
theorem St_Get (h : TrieSt B H tid w many nb N T O) (a : Adr) (n : Int) : ev (PX hook) lim 12 [.ptr tid 0 0, .agg [u64 (hi a), u64 (lo a), .int .i64 n]] H = some (getV w T a n, H) := by
  obtain ⟨⟨lid, lv, lm, fid, fv, lc, nn, fr, hp, r, hn, rfl⟩, hpos⟩ := h
  exact ev_Get (hp.sees r) a n
theorem St_Best (h : TrieSt B H tid w many nb N T O) (a : Adr) (n : Nat) (hn : n ≤ 128) (hw : w = (n : Int)) : ev (PX hook) lim 16 [.ptr tid 0 0, .agg [u64 (hi a), u64 (lo a)]] H = some (lastV T a (lastB T a (n + 1)), H) := by
  obtain ⟨⟨lid, lv, lm, fid, fv, lc, nn, fr, hp, r, hn, rfl⟩, hpos⟩ := h
  exact ev_Best (hp.sees r) hpos a n (by omega) hw
theorem St_Cover (h : TrieSt B H tid w many nb N T O) (a : Adr) (n : Int) : ev (PX hook) lim 17 [.ptr tid 0 0, .agg [u64 (hi a), u64 (lo a), .int .i64 n]] H = some (lastV T a (if rightP w a n then lastB T a n.toNat else none), H) := by
  obtain ⟨⟨lid, lv, lm, fid, fv, lc, nn, fr, hp, r, hn, rfl⟩, hpos⟩ := h
  exact ev_Cover (hp.sees r) hpos a n
theorem St_Len (h : TrieSt B H tid w many nb N T O) : ev (PX hook) lim 13 [.ptr tid 0 0] H = some (.int .i64 many, H) := by
  obtain ⟨⟨lid, lv, lm, fid, fv, lc, nn, fr, hp, r, hn, rfl⟩, hpos⟩ := h
  exact ev_Len (hp.sees r)
theorem St_Nodes (h : TrieSt B H tid w many nb N T O) (all : List (List Bool)) (hd : all.Nodup) (hm : ∀ q, q ∈ all ↔ N q ≠ 0) : ev (PX hook) lim 28 [.ptr tid 0 0] H = some (.int .i64 (all.length : Int), H) := by
  obtain ⟨⟨lid, lv, lm, fid, fv, lc, nn, fr, hp, r, hn, rfl⟩, hpos⟩ := h
  have hc := r.count all hd hm
  have := ev_Nodes (hook := hook) (lim := lim) (hp.sees r) hp.fre.lenV (by omega)
  rw [this]
  congr 3
  omega
theorem fams (w : Int) (h : family w = true) : ∃ n : Nat, w = (n : Int) ∧ n ≤ 128 := by
  rw [family_iff] at h
  rcases h with rfl | rfl
  · exact ⟨32, rfl, by omega⟩
  · exact ⟨128, rfl, by omega⟩

theorem prefix_pth {q : List Bool} {a : Adr} {n : Nat} : q <+: pth a n ↔ ∃ k, k ≤ n ∧ q = pth a k := by
  constructor
  · intro h
    have hl := h.length_le
    rw [pth_length] at hl
    refine ⟨q.length, hl, ?_⟩
    obtain ⟨r, hr⟩ := h
    apply List.ext_getElem?
    intro j
    by_cases hj : j < q.length
    · have := congrArg (fun l => l[j]?) hr
      rw [List.getElem?_append_left hj, pth_get _ _ _ (by omega)] at this
      rw [this, pth_get _ _ _ hj]
    · rw [List.getElem?_eq_none (by omega), List.getElem?_eq_none (by rw [pth_length]; omega)]
  · rintro ⟨k, hk, rfl⟩
    exact pth_prefix_iff.2 ⟨hk, fun _ _ => rfl⟩
theorem lastB_eq {T : List Bool → Int} {a : Adr} {k n : Nat} (hk : k < n) (h : T (pth a k) ≠ 0) (g : ∀ j, k < j → j < n → T (pth a j) = 0) : lastB T a n = some k := by
  induction n with
  | zero => omega
  | succ n ih =>
    rw [lastB]
    by_cases e : k = n
    · subst e; rw [if_pos h]
    · rw [if_neg (fun x => x (g n (by omega) (by omega)))]
      exact ih (by omega) fun j h1 h2 => g j h1 (by omega)
def aA : Adr := mkA 720575940379279360#64 0#64
def aB : Adr := mkA 720575940379279365#64 0#64
theorem awake_bits : ∀ k, k < 8 → bitA (cutA aA 8) k = bitA aB k := by decide +kernel
theorem awake_right : rightR 32 (cutA aA 8) 8 7 = true := by decide +kernel
def awT : List Bool → Int := fun q => if q = pth (cutA aA 8) 8 then 7 else 0
theorem awT_best : lastB awT aB 33 = some 8 := by
  apply lastB_eq (by omega)
  · unfold awT; rw [if_pos (pth_congr fun j hj => (awake_bits j hj).symm)]; omega
  · intro j h1 h2
    unfold awT; rw [if_neg]
    intro g
    have := congrArg List.length g
    rw [pth_length, pth_length] at this; omega
theorem ev_awake : ev (PX hook) lim 11 [] H = some (.bool true, H) := by
  refine ev_own _ (PF t11) rfl (by decide) ?_
  obtain ⟨H1, hnew, st, k1⟩ := ev_New (hook := hook) (lim := H.length) (B := H.length) (H := H) 32 rfl (Nat.le_refl _)
  have mk := fun L => ev_Make (hook := hook) (lim := H.length) (H := L) aA 8
  have hiA : hi aA = 720575940379279360#64 := hi_mk _ _
  have loA : lo aA = 0#64 := lo_mk _ _
  have hiB : hi aB = 720575940379279365#64 := hi_mk _ _
  have loB : lo aB = 0#64 := lo_mk _ _
  rw [hiA, loA, show near 8 = 8 from rfl] at mk
  obtain ⟨H2, N2, O2, hput, st2, k2, hO2, hN2⟩ := St_Put (hook := hook) (lim := H.length) st (Nat.le_refl _) (cutA aA 8) 8 7 awake_right (Or.inr (by omega)) (by omega) (by omega)
  have hput' : ev (PX hook) H.length 10 [.ptr (H.length + 1) 0 0, .agg [u64 (hi (cutA aA 8)), u64 (lo (cutA aA 8)), .int .i64 8, .int .i64 7]] H1 = some (.tup [.bool false, .int .i64 0], H2) := hput
  have st2' : TrieSt H.length H2 (H.length + 1) 32 1 130 N2 awT O2 := st2
  have hbest := St_Best (hook := hook) (lim := H.length) st2' aB 32 (by omega) rfl
  rw [hiB, loB, awT_best] at hbest
  have act7 : awT (pth aB 8) = 7 := by unfold awT; rw [if_pos (pth_congr fun j hj => (awake_bits j hj).symm)]
  simp only [lastV, actOf, act7, routeC] at hbest
  have d7 : decide ((0 : Int) < 7) = true := rfl
  rw [d7] at hbest
  have hlen := fun L => St_Len (hook := hook) (lim := H.length) (st2'.more L)
  have hnodes := fun L => St_Nodes (hook := hook) (lim := H.length) (st2'.more L) ((List.range 9).map (pth (cutA aA 8))) (by
      rw [List.Nodup, List.pairwise_map]
      refine List.Pairwise.imp ?_ (List.nodup_range (n := 9))
      intro i j hij e
      have := congrArg List.length e
      rw [pth_length, pth_length] at this; exact hij this) (by
      intro q
      rw [hN2, List.mem_map]
      simp only [List.mem_range]
      constructor
      · rintro ⟨k, hk, rfl⟩
        right; exact prefix_pth.2 ⟨k, by show k ≤ 8; omega, rfl⟩
      · rintro (h | h)
        · unfold noN at h
          by_cases e : q = []
          · exact ⟨0, by omega, by rw [e, pth_zero]⟩
          · rw [if_neg e] at h; omega
        · obtain ⟨k, hk, rfl⟩ := prefix_pth.1 h
          exact ⟨k, by have : k ≤ 8 := hk; omega, rfl⟩)
  simp only [List.length_map, List.length_range] at hnodes
  have ht1 := st.top
  have tk := fun L => (k1.trans k2 (P := [H.length + 1, H.length, H.length + 1]) (fun i _ h => by simp at h) (fun i _ h => h)).take (fun i hi => by simp at hi; omega) L
  have cc : (64 : Nat) = 64 := rfl
  have l10 : AV.int .u64 720575940379279360 = u64 720575940379279360#64 := rfl
  have l15 : AV.int .u64 720575940379279365 = u64 720575940379279365#64 := rfl
  have hll : H.length ≤ H2.length := Nat.le_trans k1.1 k2.1
  have z0 : ((0 : Int) != 0) = false := rfl
  have z1 : ((0 : Int) == 0) = true := rfl
  have z9 : ((9 : Int) == 9) = true := rfl
  have z7 : ((7 : Int) == 7) = true := rfl
  have z2 : ((1 : Int) == 1) = true := rfl
  simp only [f11, go_sem, Nat.reduceAdd, Nat.reduceMul, Nat.reduceSub, Nat.reduceBEq, Nat.reduceEqDiff, Nat.reduceLeDiff, Nat.reduceLT, Nat.reduceBneDiff, Int.reduceAdd, Int.cast_ofNat_Int, Int.toNat_natCast, Int.reduceLE, Int.reduceLT, Int.reduceToNat, Int.reduceEq, ↓reduceIte, hnew, z0, z1, z7, z9, z2, ht1, l10, l15, mk, hput', hbest, hnodes, hlen, hll, tk]
end Go.Proofs.Ytdapdfaejemgdaa.C
