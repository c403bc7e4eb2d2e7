/- WHAT WRITES MAKE OF SLOTS: plain laws of sets, drops and twins. Conditions: none. -/
import Derived.Test.YtmjanbhmpbhagaaLcG
set_option linter.unusedVariables false
set_option linter.unusedSimpArgs false
namespace Go.AM
theorem mayW_of {to : Sl} (hto : to = Sl.z ∨ (to.ok = true ∧ to.e.right = true)) {k n : Nat} (hk : k < n) : mayW ⟨(k : Int), to⟩ (n : Int) = true := by
  unfold mayW
  have h1 : decide ((0 : Int) ≤ (k : Int)) = true := by rw [decide_eq_true_eq]; omega
  have h2 : decide ((k : Int) < (n : Int)) = true := by rw [decide_eq_true_eq]; omega
  rw [h1, h2]
  rcases hto with h | ⟨h, g⟩
  · simp [h]
  · simp [h, g]
/-- Writes of one slot's worth. -/
theorem applyW_get {to : Sl} (hto : to = Sl.z ∨ (to.ok = true ∧ to.e.right = true)) (l : List Sl) (w : List Wr) (hw : ∀ x ∈ w, ∃ k : Nat, k < l.length ∧ x = ⟨(k : Int), to⟩) (i : Nat) (hi : i < l.length) :
    (applyW l w)[i]? = if w.any (fun x => x.k == (i : Int)) then some to else l[i]? := by
  induction w generalizing l with
  | nil => simp [applyW]
  | cons x w ih =>
    obtain ⟨k, hk, rfl⟩ := hw x (by simp)
    have e : applyW l (⟨(k : Int), to⟩ :: w) = applyW (l.set k to) w := by
      unfold applyW
      rw [List.foldl_cons, mayW_of hto hk, if_pos rfl]
      rfl
    rw [e, ih (l.set k to) (fun y hy => by rw [List.length_set]; exact hw y (by simp [hy])) (by rw [List.length_set]; exact hi), List.any_cons]
    by_cases hik : k = i
    · subst hik
      rw [List.getElem?_set_self hi]
      simp
    · rw [List.getElem?_set_ne hik]
      have : ((k : Int) == (i : Int)) = false := by simp; omega
      rw [this, Bool.false_or]
theorem mem_eachW {p : Sl → Bool} {to : Sl} {k : Nat} {l : List Sl} {x : Wr} : x ∈ eachW p to k l ↔ ∃ j s, l[j]? = some s ∧ p s = true ∧ x = ⟨((k + j : Nat) : Int), to⟩ := by
  induction l generalizing k with
  | nil => simp [eachW]
  | cons s l ih =>
    rw [eachW, List.mem_append, ih]
    constructor
    · rintro (h | ⟨j, s', h1, h2, h3⟩)
      · split at h
        · rename_i hp
          rw [List.mem_singleton] at h
          exact ⟨0, s, rfl, hp, h⟩
        · cases h
      · exact ⟨j + 1, s', h1, h2, by rw [h3]; simp; omega⟩
    · rintro ⟨j, s', h1, h2, h3⟩
      cases j with
      | zero =>
        simp at h1
        subst h1
        left; rw [if_pos h2, List.mem_singleton]; exact h3
      | succ j => right; exact ⟨j, s', h1, h2, by rw [h3]; simp; omega⟩
theorem mem_twinsW {pre l : List Sl} {x : Wr} : x ∈ twinsW pre l ↔ ∃ j s, l[j]? = some s ∧ (pre ++ l.take j).any (twin s) = true ∧ x = ⟨((pre.length + j : Nat) : Int), Sl.z⟩ := by
  induction l generalizing pre with
  | nil => simp [twinsW]
  | cons s l ih =>
    rw [twinsW, List.mem_append, ih]
    constructor
    · rintro (h | ⟨j, s', h1, h2, h3⟩)
      · split at h
        · rename_i hp
          rw [List.mem_singleton] at h
          exact ⟨0, s, rfl, by simpa using hp, h⟩
        · cases h
      · exact ⟨j + 1, s', h1, by simpa using h2, by rw [h3]; simp; omega⟩
    · rintro ⟨j, s', h1, h2, h3⟩
      cases j with
      | zero =>
        simp at h1
        subst h1
        left; rw [if_pos (by simpa using h2), List.mem_singleton]; exact h3
      | succ j => right; exact ⟨j, s', h1, by simpa using h2, by rw [h3]; simp; omega⟩
theorem apply_each {p : Sl → Bool} {to : Sl} (hto : to = Sl.z ∨ (to.ok = true ∧ to.e.right = true)) (l : List Sl) {i : Nat} {s : Sl} (hs : l[i]? = some s) : (applyW l (eachW p to 0 l))[i]? = some (if p s then to else s) := by
  have hi := (List.getElem?_eq_some_iff.1 hs).1
  rw [applyW_get hto l _ (fun x hx => ?_) i hi]
  · by_cases hp : p s = true
    · rw [if_pos hp, if_pos]
      rw [List.any_eq_true]
      exact ⟨_, mem_eachW.2 ⟨i, s, hs, hp, rfl⟩, by simp⟩
    · rw [if_neg hp, if_neg, hs]
      rw [List.any_eq_true]
      rintro ⟨x, hx, hk⟩
      obtain ⟨j, s', h1, h2, rfl⟩ := mem_eachW.1 hx
      have : j = i := by simp at hk; omega
      subst this
      rw [hs] at h1; cases h1
      exact hp h2
  · obtain ⟨j, s', h1, _, rfl⟩ := mem_eachW.1 hx
    exact ⟨j, (List.getElem?_eq_some_iff.1 h1).1, by simp⟩
theorem twin_symm_trans {s y z : Sl} (h1 : twin s y = true) (h2 : twin y z = true) : twin s z = true := by
  unfold twin En.alike at *
  simp only [Bool.and_eq_true, decide_eq_true_eq, beq_iff_eq] at *
  exact ⟨h1.1, h2.2.1, h1.2.2.1.trans h2.2.2.1, h1.2.2.2.trans h2.2.2.2⟩
theorem twin_match {s y : Sl} (h : twin s y = true) (a : Adr) : (y.ok && y.e.w.matches a) = s.e.w.matches a ∧ s.ok = true ∧ y.ok = true := by
  unfold twin En.alike at h
  simp only [Bool.and_eq_true, decide_eq_true_eq, beq_iff_eq] at h
  rw [h.2.1, h.2.2.1]
  exact ⟨by simp, h.1, rfl⟩
/-- Where something was emptied there was a twin ahead. -/
theorem twins_take (l : List Sl) (k i : Nat) {s : Sl} (hs : l[i]? = some s) : (applyW l ((twinsW [] l).take k))[i]? = some s ∨ ((applyW l ((twinsW [] l).take k))[i]? = some Sl.z ∧ (l.take i).any (twin s) = true) := by
  have hi := (List.getElem?_eq_some_iff.1 hs).1
  have hmem : ∀ x ∈ (twinsW [] l).take k, ∃ j s', l[j]? = some s' ∧ (l.take j).any (twin s') = true ∧ x = ⟨(j : Int), Sl.z⟩ := by
    intro x hx
    obtain ⟨j, s', h1, h2, h3⟩ := mem_twinsW.1 (List.mem_of_mem_take hx)
    exact ⟨j, s', h1, by simpa using h2, by simpa using h3⟩
  rw [applyW_get (Or.inl rfl) l _ (fun x hx => ?_) i hi]
  · by_cases h : ((twinsW [] l).take k).any (fun x => x.k == (i : Int)) = true
    · right
      rw [if_pos h]
      refine ⟨rfl, ?_⟩
      obtain ⟨x, hx, hk⟩ := List.any_eq_true.1 h
      obtain ⟨j, s', h1, h2, rfl⟩ := hmem x hx
      have : j = i := by simp at hk; omega
      subst this
      rw [hs] at h1; cases h1
      exact h2
    · left; rw [if_neg h]; exact hs
  · obtain ⟨j, s', h1, _, rfl⟩ := hmem x hx
    exact ⟨j, (List.getElem?_eq_some_iff.1 h1).1, rfl⟩
/-- The first of those that are alike is none's twin. -/
theorem first_twin {l : List Sl} : ∀ {i : Nat} {s : Sl}, l[i]? = some s → (l.take i).any (twin s) = true → ∃ j y, j < i ∧ l[j]? = some y ∧ twin s y = true ∧ (l.take j).any (twin y) = false := by
  intro i
  induction i using Nat.strongRecOn with
  | _ i ih =>
    intro s hs h
    obtain ⟨y, hy, ht⟩ := List.any_eq_true.1 h
    obtain ⟨j, hj⟩ := List.getElem?_of_mem hy
    rw [List.getElem?_take] at hj
    split at hj
    · rename_i hji
      cases hb : (l.take j).any (twin y)
      · exact ⟨j, y, hji, hj, ht, hb⟩
      · obtain ⟨j', y', h1, h2, h3, h4⟩ := ih j hji hj hb
        exact ⟨j', y', by omega, h2, twin_symm_trans ht h3, h4⟩
    · cases hj
theorem tells_congr {l m : List Sl} (a : Adr) (hlen : m.length = l.length) (h : ∀ (i : Nat) (s : Sl), l[i]? = some s → m[i]? = some s ∨ (m[i]? = some Sl.z ∧ ∃ (j : Nat) (y : Sl), j < i ∧ l[j]? = some y ∧ m[j]? = some y ∧ twin s y = true)) : tells m a = tells l a := by
  have key : m.find? (fun s => s.ok && s.e.w.matches a) = l.find? (fun s => s.ok && s.e.w.matches a) := by
    rcases fIdx_cases (fun s : Sl => s.ok && s.e.w.matches a) 0 l with ⟨_, h2, h3⟩ | ⟨j, x, _, h2, h3, h4, h5⟩
    · rw [h2, List.find?_eq_none]
      intro x hx
      obtain ⟨i, hi⟩ := List.getElem?_of_mem hx
      obtain ⟨s, hs⟩ : ∃ s, l[i]? = some s := ⟨l[i]'(by rw [← hlen]; exact (List.getElem?_eq_some_iff.1 hi).1), List.getElem?_eq_getElem _⟩
      rcases h i s hs with g | ⟨g, _⟩
      · have e : s = x := by rw [g] at hi; exact Option.some.inj hi
        rw [← e, h3 s (List.mem_of_getElem? hs)]; simp
      · rw [g] at hi; cases hi; simp [Sl.z]
    · rcases fIdx_cases (fun s : Sl => s.ok && s.e.w.matches a) 0 m with ⟨_, g2, g3⟩ | ⟨i, z, _, g2, g3, g4, g5⟩
      · exfalso
        rcases h j x h2 with g | ⟨g, j', y, hj', hy, _, ht⟩
        · rw [g3 x (List.mem_of_getElem? g)] at h4; cases h4
        · have := h5 j' y hj' hy
          rw [(twin_match ht a).1] at this
          simp only [Bool.and_eq_true] at h4
          rw [h4.2] at this; cases this
      · rw [h3, g3]
        -- both are the first
        have hji : i = j := by
          rcases Nat.lt_trichotomy i j with hlt | e | hlt
          · exfalso
            obtain ⟨s, hs⟩ : ∃ s, l[i]? = some s := ⟨l[i]'(by rw [← hlen]; exact (List.getElem?_eq_some_iff.1 g2).1), List.getElem?_eq_getElem _⟩
            rcases h i s hs with g | ⟨g, _⟩
            · have e : s = z := by rw [g] at g2; exact Option.some.inj g2
              rw [← e, h5 i s hlt hs] at g4; cases g4
            · rw [g] at g2; cases g2; simp [Sl.z] at g4
          · exact e
          · exfalso
            rcases h j x h2 with g | ⟨g, j', y, hj', hy, _, ht⟩
            · rw [g5 j x hlt g] at h4; cases h4
            · have := h5 j' y hj' hy
              rw [(twin_match ht a).1] at this
              simp only [Bool.and_eq_true] at h4
              rw [h4.2] at this; cases this
        subst hji
        rcases h i x h2 with g | ⟨g, _⟩
        · rw [g] at g2; cases g2; rfl
        · rw [g] at g2; cases g2; simp [Sl.z] at g4
  unfold tells
  rw [key]
theorem twins_tell (l : List Sl) (k : Nat) (a : Adr) : tells (applyW l ((twinsW [] l).take k)) a = tells l a := by
  refine tells_congr a (applyW_len _ _) fun i s hs => ?_
  rcases twins_take l k i hs with h | ⟨h, ht⟩
  · exact Or.inl h
  · right
    obtain ⟨j, y, h1, h2, h3, h4⟩ := first_twin hs ht
    refine ⟨h, j, y, h1, h2, ?_, h3⟩
    rcases twins_take l k j h2 with g | ⟨_, g⟩
    · exact g
    · rw [h4] at g; cases g
theorem twins_none (l : List Sl) : twinsW [] (applyW l (twinsW [] l)) = [] := by
  have h := twins_take l (twinsW [] l).length
  rw [List.take_length] at h
  rw [List.eq_nil_iff_forall_not_mem]
  intro x hx
  obtain ⟨i, s, h1, h2, _⟩ := mem_twinsW.1 hx
  rw [List.nil_append] at h2
  obtain ⟨y, hy, ht⟩ := List.any_eq_true.1 h2
  obtain ⟨j, hj⟩ := List.getElem?_of_mem hy
  rw [List.getElem?_take] at hj
  split at hj
  · rename_i hji
    have hil : i < l.length := by
      have := (List.getElem?_eq_some_iff.1 h1).1
      rwa [applyW_len] at this
    obtain ⟨si, hsi⟩ : ∃ s, l[i]? = some s := ⟨l[i], List.getElem?_eq_getElem hil⟩
    obtain ⟨sj, hsj⟩ : ∃ s, l[j]? = some s := ⟨l[j]'(by omega), List.getElem?_eq_getElem (by omega)⟩
    have hso : s.ok = true ∧ y.ok = true := (twin_match ht 0#128).2
    have e1 : s = si := by
      rcases h i hsi with g | ⟨g, _⟩
      · rw [h1] at g; cases g; rfl
      · rw [h1] at g; cases g; simp [Sl.z] at hso
    have e2 : y = sj := by
      rcases h j hsj with g | ⟨g, _⟩
      · rw [hj] at g; cases g; rfl
      · rw [hj] at g; cases g; simp [Sl.z] at hso
    subst e1; subst e2
    -- the twin itself was emptied
    have hany : (l.take i).any (twin s) = true := by
      rw [List.any_eq_true]
      exact ⟨y, List.mem_of_getElem? (by rw [List.getElem?_take, if_pos hji]; exact hsj), ht⟩
    have hmem : (⟨(i : Int), Sl.z⟩ : Wr) ∈ twinsW [] l := mem_twinsW.2 ⟨i, s, hsi, by simpa using hany, by simp⟩
    have : (applyW l (twinsW [] l))[i]? = some Sl.z := by
      rw [applyW_get (Or.inl rfl) l _ (fun x hx => ?_) i hil, if_pos]
      · rw [List.any_eq_true]; exact ⟨_, hmem, by simp⟩
      · obtain ⟨j, s', h1, _, h3⟩ := mem_twinsW.1 hx
        exact ⟨j, (List.getElem?_eq_some_iff.1 h1).1, by simpa using h3⟩
    rw [h1] at this
    cases this
    simp [Sl.z] at hso
  · cases hj
theorem applyW_take {l : List Sl} {w : List Wr} {k : Nat} {x : Wr} (h : w[k]? = some x) : applyW (applyW l (w.take k)) [x] = applyW l (w.take (k + 1)) := by
  rw [take_succ_of h]
  unfold applyW
  rw [List.foldl_append]
end Go.AM
