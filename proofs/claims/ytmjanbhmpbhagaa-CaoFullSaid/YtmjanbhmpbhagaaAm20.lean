/- THE ABSTRACT MACHINE: stores and appends over a heap that is known by its blocks. Conditions: none; plain lemmas. -/
import Derived.Test.YtmjanbhmpbhagaaAm18
set_option linter.unusedVariables false
set_option linter.unusedSimpArgs false
namespace Go.AM
theorem Heap.cells_of {H : Heap} {id v s : Nat} {c : List AV} (h : H[id]? = some (.rw v s c)) : H.cells id v = some c := by simp [Heap.cells, h, Blk.ver, Blk.cells]
theorem Heap.lt_of {H : Heap} {id : Nat} {b : Blk} (h : H[id]? = some b) : id < H.length := (List.getElem?_eq_some_iff.1 h).1
theorem Heap.app_of {H : Heap} {id : Nat} {b : Blk} (h : H[id]? = some b) (L : Heap) : (H ++ L)[id]? = some b := by rw [List.getElem?_append_left (Heap.lt_of h), h]
/-- Outside of these blocks, what stood stands. -/
def Kept (O : List Nat) (H H' : Heap) : Prop := H.length ≤ H'.length ∧ ∀ i, i < H.length → i ∉ O → H'[i]? = H[i]?
theorem Kept.refl (O : List Nat) (H : Heap) : Kept O H H := ⟨Nat.le_refl _, fun _ _ _ => rfl⟩
theorem Kept.app (O : List Nat) (H L : Heap) : Kept O H (H ++ L) := ⟨by simp, fun i hi _ => List.getElem?_append_left hi⟩
theorem Kept.trans {O O' P : List Nat} {H H' H'' : Heap} (h : Kept O H H') (h' : Kept O' H' H'') (hO : ∀ i, i < H.length → i ∈ O → i ∈ P) (hO' : ∀ i, i < H.length → i ∈ O' → i ∈ P) : Kept P H H'' := by
  refine ⟨Nat.le_trans h.1 h'.1, fun i hi hn => ?_⟩
  rw [h'.2 i (Nat.lt_of_lt_of_le hi h.1) (fun g => hn (hO' i hi g)), h.2 i hi (fun g => hn (hO i hi g))]
theorem Kept.mono {O P : List Nat} {H H' : Heap} (h : Kept O H H') (hO : ∀ i, i < H.length → i ∈ O → i ∈ P) : Kept P H H' := ⟨h.1, fun i hi hn => h.2 i hi fun g => hn (hO i hi g)⟩
theorem Kept.take {P : List Nat} {H H' : Heap} (h : Kept P H H') (hP : ∀ i, i ∈ P → H.length ≤ i) (L : Heap) : List.take H.length (H' ++ L) = H := by
  apply List.ext_getElem?
  intro i
  rw [List.getElem?_take]
  split
  · rename_i hi
    have h1 := h.1
    rw [List.getElem?_append_left (by omega), h.2 i hi (fun g => by have := hP i g; omega)]
  · rename_i hi
    rw [List.getElem?_eq_none (by omega)]
theorem Kept.at {P : List Nat} {H H' : Heap} (h : Kept P H H') {i : Nat} {b : Blk} (hb : H[i]? = some b) (hP : i ∉ P) : H'[i]? = some b := by rw [h.2 i (Heap.lt_of hb) hP, hb]
theorem Heap.write_ex {H : Heap} {lim id v s o : Nat} {c vs : List AV} (h : H[id]? = some (.rw v s c)) (hl : lim ≤ id) (hb : o + vs.length ≤ c.length) :
    ∃ H1, H.write lim id v o vs = some H1 ∧ H1[id]? = some (.rw v s (putCells c o vs)) ∧ (∀ i, i ≠ id → H1[i]? = H[i]?) ∧ H1.length = H.length := by
  refine ⟨H.set id (.rw v s (putCells c o vs)), ?_, ?_, ?_, List.length_set⟩
  · unfold Heap.write
    rw [h]
    simp only
    rw [if_pos ⟨trivial, hb, fun g => by omega⟩]
  · rw [List.getElem?_set_self (Heap.lt_of h)]
  · intro i hi; rw [List.getElem?_set_ne (fun g => hi g.symm)]
theorem append_ex {H : Heap} {lim id ver sz bytes n : Nat} {l : Bool} {c xs ys : List AV} (h : H[id]? = some (.rw ver sz c)) (hl : lim ≤ id) (hc : n * sz ≤ c.length) (hx : c.take (n * sz) = xs) (hy : ys.length = sz) (hb : (n + 1) * bytes ≤ 140737488355328) :
    ∃ id' ver' H1, appendV (H ++ [.rw 0 sz ys]) lim sz bytes (.sl id ver 0 n l) (.sl H.length 0 0 1 true) = some (.sl id' ver' 0 (n + 1) false, H1) ∧ H1[id']? = some (.rw ver' sz (xs ++ ys)) ∧ (id' = id ∨ H.length < id') ∧ H.length < H1.length ∧ ∀ i, i < H.length → i ≠ id → H1[i]? = H[i]? := by
  have hid := Heap.lt_of h
  have h4 : (H ++ [Blk.rw 0 sz ys])[id]? = some (.rw ver sz c) := Heap.app_of h _
  have hy1 : srcCells (H ++ [.rw 0 sz ys]) sz 1 (.sl H.length 0 0 1 true) = some ys := by
    simp only [srcCells, Heap.cells_tl0, Heap.cells_zero_rw]
    simp only [Nat.zero_add, Nat.one_mul, Nat.le_refl, true_and, hy, List.drop_zero, if_true]
    rw [List.take_of_length_le (by omega)]
  have hx1 : srcCells (H ++ [.rw 0 sz ys]) sz n (.sl id ver 0 n l) = some xs := by
    simp only [srcCells, Heap.cells_of h4, Nat.zero_add, hc, Nat.le_refl, and_self, if_true, List.drop_zero, hx]
  cases l
  · refine ⟨id, ver + 1, (H ++ [Blk.rw 0 sz ys]).set id (.rw (ver + 1) sz (xs ++ ys)), ?_, ?_, Or.inl rfl, by simp, ?_⟩
    · simp only [appendV, AV.slen, hy1, hx1, hb, if_true, Nat.one_ne_zero, if_false, Bool.false_eq_true, h4]
      rw [if_pos ⟨trivial, trivial, fun h => by omega⟩]
    · rw [List.getElem?_set_self]; simp; omega
    · intro i hi hne
      rw [List.getElem?_set_ne (fun g => hne g.symm), List.getElem?_append_left hi]
  · refine ⟨H.length + 1, 0, (H ++ [Blk.rw 0 sz ys]) ++ [Blk.rw 0 sz (xs ++ ys)], ?_, ?_, Or.inr (by omega), by simp, ?_⟩
    · simp only [appendV, AV.slen, hy1, hx1, hb, if_true, Nat.one_ne_zero, if_false, List.length_append, List.length_cons, List.length_nil, Nat.zero_add]
    · rw [List.getElem?_append_right (by simp)]; simp
    · intro i hi hne
      rw [List.append_assoc, List.getElem?_append_left hi]
theorem append_nil_ex {H : Heap} {lim sz bytes : Nat} {ys : List AV} (hy : ys.length = sz) (hb : bytes ≤ 140737488355328) :
    ∃ id' ver' H1, appendV (H ++ [.rw 0 sz ys]) lim sz bytes .nils (.sl H.length 0 0 1 true) = some (.sl id' ver' 0 1 false, H1) ∧ H1[id']? = some (.rw ver' sz ys) ∧ H.length < id' ∧ H.length < H1.length ∧ ∀ i, i < H.length → H1[i]? = H[i]? := by
  have hy1 : srcCells (H ++ [.rw 0 sz ys]) sz 1 (.sl H.length 0 0 1 true) = some ys := by
    simp only [srcCells, Heap.cells_tl0, Heap.cells_zero_rw]
    simp only [Nat.zero_add, Nat.one_mul, Nat.le_refl, true_and, hy, List.drop_zero, if_true]
    rw [List.take_of_length_le (by omega)]
  refine ⟨H.length + 1, 0, (H ++ [Blk.rw 0 sz ys]) ++ [Blk.rw 0 sz ys], ?_, ?_, by omega, by simp, ?_⟩
  · simp only [appendV, AV.slen, hy1, Nat.one_mul, hb, if_true, Nat.one_ne_zero, if_false, List.length_append, List.length_cons, List.length_nil, Nat.zero_add]
  · rw [List.getElem?_append_right (by simp)]; simp
  · intro i hi
    rw [List.append_assoc, List.getElem?_append_left hi]
theorem sliceV_hi {H : Heap} {id ver sz n : Nat} {l : Bool} {c : List AV} (h : H[id]? = some (.rw ver sz c)) (k : Nat) (hk : k ≤ n) : sliceV H sz (.sl id ver 0 n l) none (some (.int .i64 (k : Int))) none = some (.sl id ver 0 k (l && k == n)) := by
  have h1 : (0 : Int) ≤ k := by omega
  have h2 : (k : Int) ≤ n := by omega
  simp [sliceV, Heap.slOk, h, sliceBnd, h2, hk]
end Go.AM
