/- TABLES AND TREES: what a table tells of each way; plain law. Conditions: none. -/
import Derived.Test.YtdapdfaejemgdaaLbO
set_option linter.unusedVariables false
set_option linter.unusedSimpArgs false
namespace Go.AM
theorem rIns_len' (r : Rt) (l : List Rt) : (rIns r l).length = l.length + 1 := by
  induction l with
  | nil => rfl
  | cons s l ih => rw [rIns]; split <;> simp [ih]
def Rt.way (r : Rt) : List Bool := pth r.a r.n.toNat
def tOf : List Rt → List Bool → Int
  | [], _ => 0
  | r :: l, q => if q = r.way then r.x else tOf l q
/-- All routes may be. -/
def Okay (w : Int) (l : List Rt) : Prop := ∀ r, r ∈ l → rightR w r.a r.n r.x = true
theorem rightR_P {w : Int} {a : Adr} {n x : Int} (h : rightR w a n x = true) : rightP w a n = true ∧ 1 ≤ x ∧ x ≤ 255 := by
  unfold rightR at h
  simp only [Bool.and_eq_true, decide_eq_true_eq] at h
  exact ⟨h.1, h.2⟩
theorem rightP_parts {w : Int} {a : Adr} {n : Int} (h : rightP w a n = true) : 0 ≤ n ∧ n ≤ w ∧ n ≤ 128 ∧ cutA a n.toNat = a := by
  have := (rightP_iff w a n).1 h
  exact ⟨this.2.1, this.2.2.1, by omega, this.2.2.2⟩
/-- Prefixes that may be are told by their ways. -/
theorem way_inj {w w' : Int} {a b : Adr} {n m : Int} (h : rightP w a n = true) (g : rightP w' b m = true) : pth a n.toNat = pth b m.toNat ↔ a = b ∧ n = m := by
  have h1 := rightP_parts h
  have g1 := rightP_parts g
  constructor
  · intro e
    have := pth_inj h1.2.2.2 g1.2.2.2 e
    exact ⟨this.1, by omega⟩
  · rintro ⟨rfl, rfl⟩; rfl
theorem is_iff {w w' : Int} {r : Rt} {a : Adr} {n : Int} (h : rightP w r.a r.n = true) (g : rightP w' a n = true) : r.is a n = true ↔ r.way = pth a n.toNat := by
  unfold Rt.is Rt.way
  rw [way_inj h g]
  simp
theorem tOf_drop {w w' : Int} {l : List Rt} (hl : Okay w l) {a : Adr} {n : Int} (g : rightP w' a n = true) (q : List Bool) : tOf (rDrop a n l) q = if q = pth a n.toNat then 0 else tOf l q := by
  induction l with
  | nil => simp [rDrop, tOf]
  | cons r l ih =>
    have hr := (rightR_P (hl r (by simp))).1
    have ih' := ih (fun s hs => hl s (by simp [hs]))
    have hi := is_iff hr g
    unfold rDrop at ih' ⊢
    rw [List.filter_cons]
    cases hb : r.is a n
    · have hne : r.way ≠ pth a n.toNat := fun e => by rw [hi.2 e] at hb; cases hb
      simp only [Bool.not_false, if_true, tOf]
      rw [ih']
      by_cases e1 : q = r.way
      · subst e1; simp [hne]
      · simp [e1]
    · have he := hi.1 hb
      simp only [Bool.not_true, Bool.false_eq_true, if_false]
      rw [ih']
      simp only [tOf]
      by_cases e1 : q = pth a n.toNat
      · simp [e1]
      · simp [e1, he]
theorem tOf_none {w : Int} {l : List Rt} (hl : Okay w l) (q : List Bool) : tOf l q = 0 ↔ ∀ r, r ∈ l → r.way ≠ q := by
  induction l with
  | nil => simp [tOf]
  | cons r l ih =>
    have hr := rightR_P (hl r (by simp))
    have ih' := ih (fun s hs => hl s (by simp [hs]))
    simp only [tOf]
    by_cases e : q = r.way
    · subst e
      rw [if_pos rfl]
      constructor
      · intro h; omega
      · intro h; exact absurd rfl (h r (by simp))
    · rw [if_neg e, ih']
      constructor
      · intro h s hs
        rcases List.mem_cons.1 hs with rfl | hs
        · exact fun g => e g.symm
        · exact h s hs
      · intro h s hs; exact h s (by simp [hs])
theorem tOf_ins (r : Rt) (l : List Rt) (h : ∀ s, s ∈ l → s.way ≠ r.way) (q : List Bool) : tOf (rIns r l) q = if q = r.way then r.x else tOf l q := by
  induction l with
  | nil => rfl
  | cons s l ih =>
    rw [rIns]
    split
    · rfl
    · simp only [tOf]
      rw [ih (fun t ht => h t (by simp [ht]))]
      have := h s (by simp)
      by_cases e : q = s.way
      · subst e; simp [this]
      · simp [e]
theorem okay_drop {w : Int} {l : List Rt} (hl : Okay w l) (a : Adr) (n : Int) : Okay w (rDrop a n l) := fun r hr => hl r (List.mem_filter.1 hr).1
theorem mem_ins (r s : Rt) (l : List Rt) : s ∈ rIns r l ↔ s = r ∨ s ∈ l := by
  induction l with
  | nil => simp [rIns]
  | cons t l ih =>
    rw [rIns]
    split
    · simp
    · rw [List.mem_cons, ih, List.mem_cons]
      constructor
      · rintro (h | h | h)
        · exact Or.inr (Or.inl h)
        · exact Or.inl h
        · exact Or.inr (Or.inr h)
      · rintro (h | h | h)
        · exact Or.inr (Or.inl h)
        · exact Or.inl h
        · exact Or.inr (Or.inr h)
theorem tOf_put {w : Int} {l : List Rt} (hl : Okay w l) {r : Rt} (hr : rightR w r.a r.n r.x = true) (q : List Bool) : tOf (rPut r l) q = if q = r.way then r.x else tOf l q := by
  have hp := (rightR_P hr).1
  have hd : ∀ q, tOf (rDrop r.a r.n l) q = if q = r.way then 0 else tOf l q := fun q => tOf_drop hl hp q
  unfold rPut
  rw [tOf_ins]
  · by_cases e : q = r.way
    · simp [e]
    · rw [if_neg e, if_neg e, hd, if_neg e]
  · have h0 := hd r.way
    rw [if_pos rfl] at h0
    exact (tOf_none (okay_drop hl _ _) _).1 h0
theorem okay_put {w : Int} {l : List Rt} (hl : Okay w l) {r : Rt} (hr : rightR w r.a r.n r.x = true) : Okay w (rPut r l) := by
  intro s hs
  rcases (mem_ins _ _ _).1 hs with rfl | hs
  · exact hr
  · exact okay_drop hl _ _ s hs
theorem rFind_spec {w w' : Int} {l : List Rt} (hl : Okay w l) {a : Adr} {n : Int} (g : rightP w' a n = true) :
    rFind a n l = if tOf l (pth a n.toNat) ≠ 0 then some ⟨a, n, tOf l (pth a n.toNat)⟩ else none := by
  induction l with
  | nil => simp [rFind, tOf]
  | cons r l ih =>
    have hr := rightR_P (hl r (by simp))
    have ih' := ih (fun s hs => hl s (by simp [hs]))
    have hi := is_iff hr.1 g
    have ht : tOf (r :: l) (pth a n.toNat) = if pth a n.toNat = r.way then r.x else tOf l (pth a n.toNat) := rfl
    rw [rFind, ht]
    cases hb : r.is a n
    · have hne : pth a n.toNat ≠ r.way := fun e => by rw [hi.2 e.symm] at hb; cases hb
      simp only [if_neg hne, Bool.false_eq_true, if_false]
      exact ih'
    · have he := hi.1 hb
      simp only [if_pos he.symm, if_true]
      rw [if_pos (by omega)]
      unfold Rt.is at hb
      simp only [Bool.and_eq_true, beq_iff_eq] at hb
      obtain ⟨rfl, rfl⟩ := hb
      rfl
theorem right128 (a : Adr) (m : Nat) (h : m ≤ 128) : rightP 128 (cutA a m) (m : Int) = true := by
  rw [rightP_iff]
  refine ⟨Or.inr rfl, by omega, by omega, ?_⟩
  rw [Int.toNat_natCast, cut_cut, Nat.min_self]
theorem best_pred {w : Int} {r : Rt} (hr : rightP w r.a r.n = true) (a : Adr) (m : Nat) (h : m ≤ 128) : ((r.n == (m : Int)) && matchP r.a r.n a) = r.is (cutA a m) m := by
  have hp := rightP_parts hr
  unfold Rt.is
  rw [Bool.and_comm (r.a == _)]
  cases hb : (r.n == (m : Int))
  · rfl
  · rw [Bool.true_and, Bool.true_and]
    simp only [beq_iff_eq] at hb
    have hn : r.n.toNat = m := by omega
    rw [hn] at hp
    rw [Bool.eq_iff_iff, beq_iff_eq]
    unfold matchP
    rw [decide_eq_true_eq, hb, near_nat m h, common_cut _ _ _ h]
    constructor
    · intro e; rw [← e]; exact hp.2.2.2.symm
    · intro e; rw [hp.2.2.2]; exact e
theorem bestAt_find {w : Int} {l : List Rt} (hl : Okay w l) (a : Adr) (m : Nat) (h : m ≤ 128) : bestAt l a m = rFind (cutA a m) m l := by
  induction l with
  | nil => rfl
  | cons r l ih =>
    have hr := (rightR_P (hl r (by simp))).1
    have ih' := ih (fun s hs => hl s (by simp [hs]))
    have hp := best_pred hr a m h
    unfold bestAt at ih' ⊢
    rw [rFind]
    cases hb : r.is (cutA a m) m
    · rw [hb] at hp
      rw [List.find?_cons_of_neg (by simp [hp])]
      simpa using ih'
    · rw [hb] at hp
      rw [List.find?_cons_of_pos (by simp [hp])]
      rfl
theorem bestAt_eq {w : Int} {l : List Rt} (hl : Okay w l) (a : Adr) (m : Nat) (h : m ≤ 128) : bestAt l a m = if tOf l (pth a m) ≠ 0 then some ⟨cutA a m, m, tOf l (pth a m)⟩ else none := by
  rw [bestAt_find hl a m h, rFind_spec hl (right128 a m h), Int.toNat_natCast, pth_cut a m m (Nat.le_refl _)]
def bestR (T : List Bool → Int) (a : Adr) : Option Nat → Option Rt
  | some k => some ⟨cutA a k, k, T (pth a k)⟩
  | none => none
theorem bestFrom_eq {w : Int} {l : List Rt} (hl : Okay w l) (a : Adr) (k : Nat) (h : k ≤ 128) (L : Nat → Option Nat) (h0 : L 0 = none) (hs : ∀ k, L (k + 1) = if tOf l (pth a k) ≠ 0 then some k else L k) : bestFrom l a k = bestR (tOf l) a (L (k + 1)) := by
  induction k with
  | zero =>
    rw [bestFrom, hs, h0]
    have := bestAt_eq hl a 0 (by omega)
    rw [show ((0 : Nat) : Int) = 0 from rfl] at this
    rw [this]
    split <;> rfl
  | succ k ih =>
    rw [bestFrom, bestAt_eq hl a (k + 1) h, hs (k + 1)]
    split
    · rename_i e; split at e
      · rw [if_pos (by assumption), ← e]; rfl
      · cases e
    · rename_i e; split at e
      · cases e
      · rw [if_neg (by assumption)]; exact ih (by omega)
/-- No way twice. -/
def Once (l : List Rt) : Prop := (l.map Rt.way).Nodup
theorem once_drop {l : List Rt} (h : Once l) (a : Adr) (n : Int) : Once (rDrop a n l) := List.Nodup.sublist ((List.filter_sublist).map Rt.way) h
theorem ins_perm (r : Rt) (l : List Rt) : (rIns r l).Perm (r :: l) := by
  induction l with
  | nil => exact List.Perm.refl _
  | cons s l ih =>
    rw [rIns]
    split
    · exact List.Perm.refl _
    · exact (List.Perm.cons s ih).trans (List.Perm.swap r s l)
theorem drop_none {w w' : Int} {l : List Rt} (hl : Okay w l) {a : Adr} {n : Int} (g : rightP w' a n = true) (h : tOf l (pth a n.toNat) = 0) : rDrop a n l = l := by
  have h' := (tOf_none hl _).1 h
  unfold rDrop
  rw [List.filter_eq_self]
  intro r hr
  cases hb : r.is a n
  · rfl
  · exact absurd ((is_iff (rightR_P (hl r hr)).1 g).1 hb) (h' r hr)
theorem drop_some {w w' : Int} {l : List Rt} (hl : Okay w l) (ho : Once l) {a : Adr} {n : Int} (g : rightP w' a n = true) (h : tOf l (pth a n.toNat) ≠ 0) : (rDrop a n l).length + 1 = l.length := by
  induction l with
  | nil => exact absurd rfl h
  | cons r l ih =>
    have hr := (rightR_P (hl r (by simp))).1
    have hl' : Okay w l := fun s hs => hl s (by simp [hs])
    have hi := is_iff hr g
    unfold Once at ho
    rw [List.map_cons, List.nodup_cons] at ho
    cases hb : r.is a n
    · have hne : pth a n.toNat ≠ r.way := fun e => by rw [hi.2 e.symm] at hb; cases hb
      have h2 : tOf l (pth a n.toNat) ≠ 0 := by simpa [tOf, hne] using h
      have := ih hl' ho.2 h2
      unfold rDrop at this ⊢
      rw [List.filter_cons]
      simp only [hb, Bool.not_false, if_true, List.length_cons]
      omega
    · have he := hi.1 hb
      have h2 : tOf l (pth a n.toNat) = 0 := by
        rw [tOf_none hl']
        intro s hs e
        exact ho.1 (List.mem_map.2 ⟨s, hs, by rw [e, he]⟩)
      have := drop_none hl' g h2
      unfold rDrop at this ⊢
      rw [List.filter_cons]
      simp only [hb, Bool.not_true, Bool.false_eq_true, if_false, this, List.length_cons]
theorem once_put {w : Int} {l : List Rt} (hl : Okay w l) (ho : Once l) {r : Rt} (hr : rightR w r.a r.n r.x = true) : Once (rPut r l) := by
  have hp := (rightR_P hr).1
  unfold Once rPut
  rw [((ins_perm r _).map Rt.way).nodup_iff, List.map_cons, List.nodup_cons]
  refine ⟨?_, once_drop ho _ _⟩
  rw [List.mem_map]
  rintro ⟨s, hs, e⟩
  have h0 := tOf_drop hl hp r.way
  rw [show pth r.a r.n.toNat = r.way from rfl, if_pos rfl] at h0
  exact (tOf_none (okay_drop hl _ _) _).1 h0 s hs e
theorem put_len {w : Int} {l : List Rt} (hl : Okay w l) (ho : Once l) {r : Rt} (hr : rightR w r.a r.n r.x = true) : (rPut r l).length = if tOf l r.way ≠ 0 then l.length else l.length + 1 := by
  have hp := (rightR_P hr).1
  unfold rPut
  rw [rIns_len']
  split
  · rename_i h; exact drop_some hl ho hp h
  · rename_i h; rw [drop_none hl hp (Decidable.byContradiction h)]
end Go.AM
