/- A SLICE OF ONE'S OWN, that may have been cut, beside others. Conditions: none. -/
import Derived.Test.YtmjanbhmpbhagaaLbS
set_option linter.unusedVariables false
set_option linter.unusedSimpArgs false
namespace Go.AM
section
variable {α : Type} {c : α → List AV} {sz : Nat}
/-- A slice of one's own, in a block from b on, that may hold more than it shows. -/
def Own (c : α → List AV) (sz b : Nat) (H : Heap) (v : AV) (l : List α) : Prop :=
  (l = [] ∧ v = .nils) ∨ ∃ id ver cs, b ≤ id ∧ v = .sl id ver 0 l.length false ∧ H[id]? = some (.rw ver sz cs) ∧ l.length * sz ≤ cs.length ∧ cs.take (l.length * sz) = cat c l ∧ AV.flats cs = true
/-- It does not lie in a block. -/
def Off (v : AV) (k : Nat) : Prop := ∀ id ver o n m, v = .sl id ver o n m → id ≠ k
theorem Own.nil {b : Nat} {H : Heap} : Own c sz b H .nils [] := Or.inl ⟨rfl, rfl⟩
theorem Own.lst {b : Nat} {H : Heap} {v : AV} {l : List α} (h : Own c sz b H v l) : Lst c sz H v l := by
  rcases h with h | ⟨id, ver, cs, h1, h2, h3, h4, h5, h6⟩
  · exact Or.inl h
  · exact Or.inr ⟨id, ver, 0, false, cs, h2, Heap.cells_of h3, by omega, by rw [List.drop_zero]; exact h5, by simp [Heap.slOk, h3]⟩
theorem Own.keepH {b : Nat} {H H' : Heap} {v : AV} {l : List α} (h : Own c sz b H v l) (hk : ∀ id ver o n m, v = .sl id ver o n m → H'[id]? = H[id]?) : Own c sz b H' v l := by
  rcases h with h | ⟨id, ver, cs, h1, h2, h3, h4, h5, h6⟩
  · exact Or.inl h
  · exact Or.inr ⟨id, ver, cs, h1, h2, by rw [hk _ _ _ _ _ h2]; exact h3, h4, h5, h6⟩
theorem Own.lt {b : Nat} {H : Heap} {v : AV} {l : List α} (h : Own c sz b H v l) : ∀ id ver o n m, v = .sl id ver o n m → id < H.length := by
  rintro id ver o n m rfl
  rcases h with ⟨_, h⟩ | ⟨id', ver', cs, h1, h2, h3, _⟩
  · cases h
  · cases h2; exact (List.getElem?_eq_some_iff.1 h3).1
theorem Own.more {b : Nat} {H : Heap} {v : AV} {l : List α} (h : Own c sz b H v l) (L : Heap) : Own c sz b (H ++ L) v l :=
  h.keepH fun id ver o n m hv => List.getElem?_append_left (h.lt id ver o n m hv)
/-- Cut. -/
theorem Own.cut (hc : ∀ x, (c x).length = sz) {b : Nat} {H : Heap} {v : AV} {l : List α} (h : Own c sz b H v l) (j : Nat) (hj : j ≤ l.length) :
    ∃ v', sliceV H sz v none (some (.int .i64 (j : Int))) none = some v' ∧ Own c sz b H v' (l.take j) ∧ (∀ k, Off v k → Off v' k) := by
  rcases h with ⟨rfl, rfl⟩ | ⟨id, ver, cs, h1, rfl, h3, h4, h5, h6⟩
  · simp at hj
    subst hj
    exact ⟨.nils, by simp [sliceV, sliceBnd], Or.inl ⟨rfl, rfl⟩, fun k h => h⟩
  · have hs : H.slOk id ver sz = true := by simp [Heap.slOk, h3]
    have a2 : ((j : Int) ≤ (l.length : Int)) := by omega
    have hm : j * sz ≤ l.length * sz := Nat.mul_le_mul_right _ hj
    refine ⟨.sl id ver 0 j false, by simp [sliceV, hs, sliceBnd, a2, hj], Or.inr ⟨id, ver, cs, h1, ?_, h3, ?_, ?_, h6⟩, fun k h => ?_⟩
    · rw [List.length_take, Nat.min_eq_left hj]
    · rw [List.length_take, Nat.min_eq_left hj]; omega
    · rw [List.length_take, Nat.min_eq_left hj, ← cat_take hc, ← h5, List.take_take, Nat.min_eq_left hm]
    · rintro id' ver' o n m hv
      cases hv
      exact h id ver 0 l.length false rfl
/-- An element more. -/
theorem Own.push (hc : ∀ x, (c x).length = sz) (hf : ∀ x, AV.flats (c x) = true) {b bytes lim k : Nat} {H : Heap} {v : AV} {l : List α} (h : Own c sz b H v l) (x : α) (hb : b ≤ H.length) (hlim : lim ≤ b) (hk : H[k]? = some (.rw 0 sz (c x))) (hbd : (l.length + 1) * bytes ≤ 140737488355328) :
    ∃ v' H', appendV H lim sz bytes v (.sl k 0 0 1 true) = some (v', H') ∧ Own c sz b H' v' (l ++ [x]) ∧ H.length ≤ H'.length ∧ (∀ j, j < H.length → Off v j → H'[j]? = H[j]?) ∧ (∀ j, j < H.length → Off v j → Off v' j) ∧ H'.take b = H.take b := by
  have hsrc : srcCells H sz 1 (.sl k 0 0 1 true) = some (c x) := by
    have hcell : H.cells k 0 = some (c x) := by simp [Heap.cells, hk, Blk.ver, Blk.cells]
    simp only [srcCells, hcell]
    rw [if_pos ⟨Nat.le_refl _, by rw [hc]; omega⟩]
    simp [List.take_of_length_le, hc]
  rcases h with ⟨rfl, rfl⟩ | ⟨id, ver, cs, h1, rfl, h3, h4, h5, h6⟩
  · refine ⟨.sl H.length 0 0 1 false, H ++ [.rw 0 sz (c x)], ?_, Or.inr ⟨H.length, 0, c x, hb, by simp, by simp, by simp [hc], by simp only [List.nil_append, List.length_singleton, Nat.one_mul, cat_one]; exact List.take_of_length_le (Nat.le_of_eq (hc x)), hf x⟩, by simp, fun j hj _ => by rw [List.getElem?_append_left hj], fun j hj _ => ?_, ?_⟩
    · simp only [appendV, AV.slen, hsrc]
      simp at hbd
      simp [hbd]
    · rintro id' ver' o n m hv
      cases hv
      omega
    · rw [List.take_append_of_le_length hb]
  · have hlt := (List.getElem?_eq_some_iff.1 h3).1
    have hsl : srcCells H sz l.length (.sl id ver 0 l.length false) = some (cat c l) := by
      simp only [srcCells, Heap.cells_of h3]
      rw [if_pos ⟨Nat.le_refl _, by omega⟩, List.drop_zero, h5]
    have hlc := cat_length hc l
    refine ⟨.sl id (ver + 1) 0 (l.length + 1) false, H.set id (.rw (ver + 1) sz (cat c l ++ c x)), ?_, Or.inr ⟨id, ver + 1, cat c l ++ c x, h1, by simp, ?_, ?_, ?_, by rw [← cat_one (c := c), ← cat_append]; exact cat_flats hf _⟩, by simp, fun j hj ho => ?_, fun j hj ho => ?_, ?_⟩
    · simp only [appendV, AV.slen, hsrc, hsl]
      simp [hbd, h3]
      intro h; omega
    · rw [List.getElem?_set_self hlt]
    · simp [hlc, hc, Nat.add_mul]
    · rw [cat_append, cat_one]
      apply List.take_of_length_le
      simp [hlc, hc, Nat.add_mul]
    · rw [List.getElem?_set_ne (ho id ver 0 l.length false rfl)]
    · rintro id' ver' o n m hv
      cases hv
      exact ho id ver 0 l.length false rfl
    · rw [List.take_set_of_le h1]
theorem Own.finish {H G : Heap} {v : AV} {l : List α} (h : Own c sz H.length (H ++ G) v l) : ∃ v' L, Go.AM.finish .slices H.length v (H ++ G) = some (v', H ++ L) ∧ Own c sz H.length (H ++ L) v' l := by
  rcases h with ⟨h1, rfl⟩ | ⟨id, ver, cs, h1, rfl, h3, h4, h5, h6⟩
  · exact ⟨.nils, [], by rw [finish_nils, List.append_nil], Or.inl ⟨h1, rfl⟩⟩
  · obtain ⟨j, rfl⟩ : ∃ j, id = H.length + j := ⟨id - H.length, by omega⟩
    have h3' : (H ++ G)[H.length + j]? = some (.rw ver sz cs) := h3
    rw [List.getElem?_append_right (Nat.le_add_right _ _), Nat.add_sub_cancel_left] at h3'
    refine ⟨.sl H.length ver 0 l.length false, [.rw ver sz cs], ?_, Or.inr ⟨H.length, ver, cs, Nat.le_refl _, rfl, ?_, h4, h5, h6⟩⟩
    · rw [finish_keep, h3', keepB_rw, if_pos h6]
    · rw [List.getElem?_append_right (Nat.le_refl _), Nat.sub_self]; rfl
theorem Own.notup {b : Nat} {H : Heap} {v : AV} {l : List α} (h : Own c sz b H v l) : ∀ vs, v ≠ .tup vs := by
  rcases h with ⟨_, rfl⟩ | ⟨id, ver, cs, h1, rfl, _⟩ <;> intro vs h <;> cases h
end
theorem Gr.own {α : Type} {c : α → List AV} {sz : Nat} (hc : ∀ x, (c x).length = sz) (hf : ∀ x, AV.flats (c x) = true) {B G : Heap} {v : AV} {l : List α} (h : Gr c sz B G v l) : Own c sz B.length (B ++ G) v l := by
  obtain ⟨h0, ⟨h1, h2⟩ | ⟨id, ver, h1, h2, h3⟩⟩ := h
  · exact Or.inl ⟨List.eq_nil_of_length_eq_zero h1, h2⟩
  · have := cat_length hc l
    exact Or.inr ⟨id, ver, cat c l, h1, h2, h3, by omega, List.take_of_length_le (by omega), cat_flats hf l⟩
theorem Own.low {α : Type} {c : α → List AV} {sz b b' : Nat} {H : Heap} {v : AV} {l : List α} (h : Own c sz b H v l) (hb : b' ≤ b) : Own c sz b' H v l := by
  rcases h with h | ⟨id, ver, cs, h1, h⟩
  · exact Or.inl h
  · exact Or.inr ⟨id, ver, cs, by omega, h⟩
end Go.AM
