/- ROWS OF THINGS IN SLICES: how they are read, and how they grow. Conditions: none; plain lemmas. -/
import Derived.Test.YtmjanbhmpbhagaaAm20
set_option linter.unusedVariables false
set_option linter.unusedSimpArgs false
namespace Go.AM
section
variable {α : Type} {c : α → List AV} {sz : Nat}
/-- The cells of a row of elements. -/
def cat (c : α → List AV) : List α → List AV
  | [] => []
  | x :: l => c x ++ cat c l
theorem cat_eq (c : α → List AV) (l : List α) : cat c l = (l.map c).flatten := by
  induction l with
  | nil => rfl
  | cons x l ih => simp [cat, ih]
theorem cat_append (l m : List α) : cat c (l ++ m) = cat c l ++ cat c m := by simp [cat_eq]
theorem cat_one (x : α) : cat c [x] = c x := by simp [cat]
theorem cat_length (hc : ∀ x, (c x).length = sz) (l : List α) : (cat c l).length = l.length * sz := by
  induction l with
  | nil => simp [cat]
  | cons x l ih => simp only [cat, List.length_append, ih, hc, List.length_cons, Nat.succ_mul]; omega
theorem cat_flats (hf : ∀ x, AV.flats (c x) = true) (l : List α) : AV.flats (cat c l) = true := by
  have app : ∀ a b : List AV, AV.flats a = true → AV.flats b = true → AV.flats (a ++ b) = true := by
    intro a b ha hb
    induction a with
    | nil => exact hb
    | cons x a ih =>
      simp only [AV.flats, Bool.and_eq_true, List.cons_append] at ha ⊢
      exact ⟨ha.1, ih ha.2⟩
  induction l with
  | nil => rfl
  | cons x l ih => exact app _ _ (hf x) ih
theorem cat_drop (hc : ∀ x, (c x).length = sz) (l : List α) (i : Nat) : (cat c l).drop (i * sz) = cat c (l.drop i) := by
  induction l generalizing i with
  | nil => simp [cat]
  | cons s l ih =>
    cases i with
    | zero => simp
    | succ i =>
      rw [show (i + 1) * sz = sz + i * sz by rw [Nat.succ_mul]; omega, ← List.drop_drop, cat]
      rw [List.drop_left' (hc s)]
      exact ih i
theorem cat_take (hc : ∀ x, (c x).length = sz) (l : List α) (i : Nat) : (cat c l).take (i * sz) = cat c (l.take i) := by
  induction l generalizing i with
  | nil => simp [cat]
  | cons s l ih =>
    cases i with
    | zero => simp [cat]
    | succ i =>
      rw [cat, List.take_append, hc, List.take_of_length_le (by rw [hc, Nat.succ_mul]; omega), show (i + 1) * sz - sz = i * sz by rw [Nat.succ_mul]; omega, ih]
      rfl
theorem cat_at (hc : ∀ x, (c x).length = sz) {l : List α} {i : Nat} {x : α} (h : l[i]? = some x) : (cat c l).drop (i * sz) = c x ++ cat c (l.drop (i + 1)) := by
  rw [cat_drop hc]
  obtain ⟨hi, rfl⟩ := List.getElem?_eq_some_iff.1 h
  rw [List.drop_eq_getElem_cons hi]; rfl
/-- A slice that shows a row of things. -/
def Lst (c : α → List AV) (sz : Nat) (H : Heap) (v : AV) (l : List α) : Prop :=
  (l = [] ∧ v = .nils) ∨ ∃ id ver off m cs, v = .sl id ver off l.length m ∧ H.cells id ver = some cs ∧ off + l.length * sz ≤ cs.length ∧ (cs.drop off).take (l.length * sz) = cat c l ∧ H.slOk id ver sz = true
variable {H : Heap} {v : AV} {l : List α}
theorem slok_app {id ver : Nat} (h : H.slOk id ver sz = true) (L : Heap) : (H ++ L).slOk id ver sz = true := by
  unfold Heap.slOk at h ⊢
  cases hh : H[id]? with
  | none => rw [hh] at h; cases h
  | some b => rw [Heap.app_of hh]; rw [hh] at h; exact h
theorem Lst.nil : Lst c sz H .nils [] := Or.inl ⟨rfl, rfl⟩
theorem Lst.more (h : Lst c sz H v l) (L : Heap) : Lst c sz (H ++ L) v l := by
  rcases h with h | ⟨id, ver, off, m, cs, h1, h2, h3, h4, h5⟩
  · exact Or.inl h
  · exact Or.inr ⟨id, ver, off, m, cs, h1, Heap.cells_old h2, h3, h4, slok_app h5 L⟩
theorem Lst.keep {H' : Heap} (h : Lst c sz H v l) (hc : ∀ id ver off n m b, v = .sl id ver off n m → H[id]? = some b → H'[id]? = some b) : Lst c sz H' v l := by
  rcases h with h | ⟨id, ver, off, m, cs, h1, h2, h3, h4, h5⟩
  · exact Or.inl h
  · have hb : ∃ b, H[id]? = some b := by
      unfold Heap.cells at h2
      cases hh : H[id]? with
      | none => rw [hh] at h2; cases h2
      | some b => exact ⟨b, rfl⟩
    obtain ⟨b, hb⟩ := hb
    have hb' := hc _ _ _ _ _ b h1 hb
    refine Or.inr ⟨id, ver, off, m, cs, h1, ?_, h3, h4, ?_⟩
    · unfold Heap.cells at h2 ⊢; rw [hb']; rw [hb] at h2; exact h2
    · unfold Heap.slOk at h5 ⊢; rw [hb']; rw [hb] at h5; exact h5
theorem Lst.idlt (h : Lst c sz H v l) : ∀ id ver off n m, v = .sl id ver off n m → id < H.length := by
  intro id ver off n m e
  rcases h with ⟨_, h⟩ | ⟨id', ver', off', m', cs, h1, h2, h3, h4, h5⟩
  · rw [h] at e; cases e
  · rw [h1] at e; cases e
    unfold Heap.cells at h2
    cases hh : H[id]? with
    | none => rw [hh] at h2; cases h2
    | some b => exact Heap.lt_of hh
theorem Lst.len (h : Lst c sz H v l) (L : Heap) : lenV (H ++ L) v = some (.int .i64 (l.length : Int)) := by
  rcases h with ⟨rfl, rfl⟩ | ⟨id, ver, off, m, cs, rfl, h2, h3, h4, h5⟩
  · rfl
  · simp [lenV, Heap.cells_old h2]
theorem Lst.len' (h : Lst c sz H v l) : lenV H v = some (.int .i64 (l.length : Int)) := by
  have := h.len []
  rwa [List.append_nil] at this
theorem Lst.slen (h : Lst c sz H v l) : v.slen = some l.length := by
  rcases h with ⟨rfl, rfl⟩ | ⟨id, ver, off, m, cs, rfl, _⟩ <;> rfl
theorem Lst.src (h : Lst c sz H v l) (L : Heap) : srcCells (H ++ L) sz l.length v = some (cat c l) := by
  rcases h with ⟨rfl, rfl⟩ | ⟨id, ver, off, m, cs, rfl, h2, h3, h4, h5⟩
  · rfl
  · simp [srcCells, Heap.cells_old h2, h3, h4]
/-- An element where it lies. -/
structure Elem (c : α → List AV) (sz : Nat) (H : Heap) (v : AV) (k : Nat) (x : α) (id ver p : Nat) : Prop where
  adr : ∀ L, iaddrSV (H ++ L) sz v (.int .i64 (k : Int)) = some (.ptr id ver p)
  adr' : iaddrSV H sz v (.int .i64 (k : Int)) = some (.ptr id ver p)
  cel : ∀ L, ((H ++ L).cells id ver).isSome = true
  cel' : (H.cells id ver).isSome = true
  all : ∀ L, loadV (H ++ L) true sz (.ptr id ver p) = some (.agg (c x))
  all' : loadV H true sz (.ptr id ver p) = some (.agg (c x))
  part : ∀ L o n, o + n ≤ sz → loadV (H ++ L) true n (.ptr id ver (p + o)) = some (.agg (((c x).drop o).take n))
  part' : ∀ o n, o + n ≤ sz → loadV H true n (.ptr id ver (p + o)) = some (.agg (((c x).drop o).take n))
  part0 : ∀ L n, n ≤ sz → loadV (H ++ L) true n (.ptr id ver p) = some (.agg ((c x).take n))
  part0' : ∀ n, n ≤ sz → loadV H true n (.ptr id ver p) = some (.agg ((c x).take n))
  one : ∀ L o, o < sz → loadV (H ++ L) false 1 (.ptr id ver (p + o)) = (c x)[o]?
  one' : ∀ o, o < sz → loadV H false 1 (.ptr id ver (p + o)) = (c x)[o]?
  one0 : ∀ L, 0 < sz → loadV (H ++ L) false 1 (.ptr id ver p) = (c x)[0]?
  one0' : 0 < sz → loadV H false 1 (.ptr id ver p) = (c x)[0]?
theorem elem_mk {id ver p k : Nat} {x : α} {cs : List AV} (hz : 0 < sz) (hc : (c x).length = sz) (hv : ∀ L, iaddrSV (H ++ L) sz v (.int .i64 (k : Int)) = some (.ptr id ver p)) (hcs : H.cells id ver = some cs) (hx : (cs.drop p).take sz = c x) : Elem c sz H v k x id ver p := by
  have hlen : p + sz ≤ cs.length := by
    have := congrArg List.length hx
    rw [List.length_take, List.length_drop, hc] at this
    omega
  have hget : ∀ o, o < sz → cs[p + o]? = (c x)[o]? := by
    intro o ho
    rw [← hx, List.getElem?_take, if_pos ho, List.getElem?_drop]
  have hpart : ∀ o n, o + n ≤ sz → (cs.drop (p + o)).take n = ((c x).drop o).take n := by
    intro o n h
    rw [← hx, List.drop_take, List.take_take, List.drop_drop, Nat.min_eq_left (by omega)]
  have hld : ∀ L o n, o + n ≤ sz → loadV (H ++ L) true n (.ptr id ver (p + o)) = some (.agg (((c x).drop o).take n)) := by
    intro L o n h
    simp only [loadV, Heap.cells_old hcs, rdCells, if_true]
    rw [if_pos (by omega), hpart o n h]
  have h1 : ∀ L o, o < sz → loadV (H ++ L) false 1 (.ptr id ver (p + o)) = (c x)[o]? := by
    intro L o h
    simp only [loadV, Heap.cells_old hcs, rdCells, Bool.false_eq_true, if_false]
    exact hget o h
  have hnil : ∀ {P : Heap → Prop}, (∀ L, P (H ++ L)) → P H := fun h => by have := h []; rwa [List.append_nil] at this
  have hall : ∀ L, loadV (H ++ L) true sz (.ptr id ver p) = some (.agg (c x)) := fun L => by
    have := hld L 0 sz (by omega)
    rwa [Nat.add_zero, List.drop_zero, List.take_of_length_le (by omega)] at this
  have hp0 : ∀ L n, n ≤ sz → loadV (H ++ L) true n (.ptr id ver p) = some (.agg ((c x).take n)) := fun L n h => by
    have := hld L 0 n (by omega)
    rwa [Nat.add_zero, List.drop_zero] at this
  have h10 : ∀ L, 0 < sz → loadV (H ++ L) false 1 (.ptr id ver p) = (c x)[0]? := fun L h => h1 L 0 h
  have hcl : ∀ L, ((H ++ L).cells id ver).isSome = true := fun L => by rw [Heap.cells_old hcs]; rfl
  exact ⟨hv, hnil (P := fun H => iaddrSV H sz v (.int .i64 (k : Int)) = some (.ptr id ver p)) hv, hcl, by rw [hcs]; rfl, hall, hnil (P := fun H => loadV H true sz (.ptr id ver p) = some (.agg (c x))) hall, hld, fun o n h => hnil (P := fun H => loadV H true n (.ptr id ver (p + o)) = some (.agg (((c x).drop o).take n))) fun L => hld L o n h,
    hp0, fun n h => hnil (P := fun H => loadV H true n (.ptr id ver p) = some (.agg ((c x).take n))) fun L => hp0 L n h, h1, fun o h => hnil (P := fun H => loadV H false 1 (.ptr id ver (p + o)) = (c x)[o]?) fun L => h1 L o h, h10, fun h => hnil (P := fun H => loadV H false 1 (.ptr id ver p) = (c x)[0]?) fun L => h10 L h⟩
theorem Lst.at (h : Lst c sz H v l) (hz : 0 < sz) (hc : ∀ x, (c x).length = sz) {k : Nat} {x : α} (hk : l[k]? = some x) : ∃ id ver p, Elem c sz H v k x id ver p := by
  have hkl : k < l.length := (List.getElem?_eq_some_iff.1 hk).1
  rcases h with ⟨rfl, rfl⟩ | ⟨id, ver, off, m, cs, rfl, h2, h3, h4, h5⟩
  · simp at hk
  · refine ⟨id, ver, off + k * sz, elem_mk hz (hc x) (fun L => ?_) h2 ?_⟩
    · simp [iaddrSV, Heap.cells_old h2, hkl]
    · have e1 := cat_at hc hk
      rw [← h4, List.drop_take, List.drop_drop] at e1
      have e2 := congrArg (List.take sz) e1
      have this : (k + 1) * sz ≤ l.length * sz := Nat.mul_le_mul_right _ hkl
      rw [Nat.succ_mul] at this
      rw [List.take_take, List.take_append_of_le_length (by rw [hc]; omega), List.take_of_length_le (l := c x) (by rw [hc]; omega), Nat.min_eq_left (by omega)] at e2
      exact e2
/-- An index that is not there. -/
theorem Lst.out (h : Lst c sz H v l) {k : Int} (hk : k < 0 ∨ (l.length : Int) ≤ k) : iaddrSV H sz v (.int .i64 k) = none := by
  rcases h with ⟨rfl, rfl⟩ | ⟨id, ver, off, m, cs, rfl, h2, h3, h4, h5⟩
  · rfl
  · simp only [iaddrSV]
    rw [if_neg]; omega
/-- A part of a slice. -/
theorem Lst.sub (h : Lst c sz H v l) (hc : ∀ x, (c x).length = sz) (i j : Nat) (hij : i ≤ j) (hj : j ≤ l.length) :
    ∃ v', (∀ L, sliceV (H ++ L) sz v (some (.int .i64 (i : Int))) (some (.int .i64 (j : Int))) none = some v') ∧ sliceV H sz v (some (.int .i64 (i : Int))) (some (.int .i64 (j : Int))) none = some v' ∧
      (i = 0 → (∀ L, sliceV (H ++ L) sz v none (some (.int .i64 (j : Int))) none = some v') ∧ sliceV H sz v none (some (.int .i64 (j : Int))) none = some v') ∧ (j = l.length → (∀ L, sliceV (H ++ L) sz v (some (.int .i64 (i : Int))) none none = some v') ∧ sliceV H sz v (some (.int .i64 (i : Int))) none none = some v') ∧ Lst c sz H v' ((l.take j).drop i) := by
  rcases h with ⟨rfl, rfl⟩ | ⟨id, ver, off, m, cs, rfl, h2, h3, h4, h5⟩
  · simp at hj
    subst hj
    have : i = 0 := by omega
    subst this
    exact ⟨.nils, fun L => by simp [sliceV, sliceBnd], by simp [sliceV, sliceBnd], fun _ => ⟨fun L => by simp [sliceV, sliceBnd], by simp [sliceV, sliceBnd]⟩, fun _ => ⟨fun L => by simp [sliceV, sliceBnd], by simp [sliceV, sliceBnd]⟩, Or.inl ⟨rfl, rfl⟩⟩
  · have a1 : ((i : Int) ≤ (j : Int)) := by omega
    have a2 : ((j : Int) ≤ (l.length : Int)) := by omega
    have key : ∀ H', H'.slOk id ver sz = true → sliceV H' sz (.sl id ver off l.length m) (some (.int .i64 (i : Int))) (some (.int .i64 (j : Int))) none = some (.sl id ver (off + i * sz) (j - i) (m && j == l.length)) := by
      intro H' hs
      simp [sliceV, hs, sliceBnd, a1, a2, hij, hj]
    have key0 : i = 0 → ∀ H', H'.slOk id ver sz = true → sliceV H' sz (.sl id ver off l.length m) none (some (.int .i64 (j : Int))) none = some (.sl id ver (off + i * sz) (j - i) (m && j == l.length)) := by
      intro hi H' hs
      subst hi
      simp [sliceV, hs, sliceBnd, a2, hj]
    have keyl : j = l.length → ∀ H', H'.slOk id ver sz = true → sliceV H' sz (.sl id ver off l.length m) (some (.int .i64 (i : Int))) none none = some (.sl id ver (off + i * sz) (j - i) (m && j == l.length)) := by
      intro hi H' hs
      subst hi
      simp [sliceV, hs, sliceBnd, a1, hij]
    refine ⟨.sl id ver (off + i * sz) (j - i) (m && j == l.length), fun L => key _ (slok_app h5 L), key _ h5, fun hi => ⟨fun L => key0 hi _ (slok_app h5 L), key0 hi _ h5⟩, fun hi => ⟨fun L => keyl hi _ (slok_app h5 L), keyl hi _ h5⟩, Or.inr ⟨id, ver, off + i * sz, (m && j == l.length), cs, ?_, h2, ?_, ?_, h5⟩⟩
    · rw [List.length_drop, List.length_take, Nat.min_eq_left hj]
    · rw [List.length_drop, List.length_take, Nat.min_eq_left hj]
      have : (j - i) * sz + i * sz ≤ l.length * sz := by rw [← Nat.add_mul]; exact Nat.mul_le_mul_right _ (by omega)
      omega
    · rw [List.length_drop, List.length_take, Nat.min_eq_left hj, ← cat_drop hc, ← cat_take hc, ← h4]
      rw [List.take_take, List.drop_take, List.drop_drop]
      have e1 : min (j * sz) (l.length * sz) = j * sz := Nat.min_eq_left (Nat.mul_le_mul_right _ hj)
      rw [e1]
      congr 1
      rw [← Nat.sub_mul]
/-- Its first elements, and no room behind. -/
theorem Lst.subm (h : Lst c sz H v l) (hc : ∀ x, (c x).length = sz) (j : Nat) (hj : j ≤ l.length) :
    ∃ v', (∀ L, sliceV (H ++ L) sz v none (some (.int .i64 (j : Int))) (some (.int .i64 (j : Int))) = some v') ∧ sliceV H sz v none (some (.int .i64 (j : Int))) (some (.int .i64 (j : Int))) = some v' ∧ Lst c sz H v' (l.take j) := by
  rcases h with ⟨rfl, rfl⟩ | ⟨id, ver, off, m, cs, rfl, h2, h3, h4, h5⟩
  · simp at hj
    subst hj
    exact ⟨.nils, fun L => by simp [sliceV, sliceBnd], by simp [sliceV, sliceBnd], Or.inl ⟨rfl, rfl⟩⟩
  · have a2 : ((j : Int) ≤ (l.length : Int)) := by omega
    have key : ∀ H', H'.slOk id ver sz = true → sliceV H' sz (.sl id ver off l.length m) none (some (.int .i64 (j : Int))) (some (.int .i64 (j : Int))) = some (.sl id ver off j true) := by
      intro H' hs
      simp [sliceV, hs, sliceBnd, a2, hj]
    refine ⟨.sl id ver off j true, fun L => key _ (slok_app h5 L), key _ h5, Or.inr ⟨id, ver, off, true, cs, ?_, h2, ?_, ?_, h5⟩⟩
    · rw [List.length_take, Nat.min_eq_left hj]
    · rw [List.length_take, Nat.min_eq_left hj]
      have : j * sz ≤ l.length * sz := Nat.mul_le_mul_right _ hj
      omega
    · rw [List.length_take, Nat.min_eq_left hj, ← cat_take hc, ← h4, List.take_take, Nat.min_eq_left (Nat.mul_le_mul_right _ hj)]
/-- A slice that a function has made, above H. -/
def Gr (c : α → List AV) (sz : Nat) (B G : Heap) (v : AV) (l : List α) : Prop := Grown sz B G l.length (cat c l) v
theorem Gr.nil {B G : Heap} : Gr c sz B G .nils [] := Grown.nil _ _ _
theorem Gr.lst {B G : Heap} (h : Gr c sz B G v l) : Lst c sz (B ++ G) v l := by
  obtain ⟨h0, ⟨h1, h2⟩ | ⟨id, ver, h1, h2, h3⟩⟩ := h
  · exact Or.inl ⟨List.eq_nil_of_length_eq_zero h1, h2⟩
  · exact Or.inr ⟨id, ver, 0, false, cat c l, h2, Heap.cells_of h3, by omega, by rw [List.drop_zero, List.take_of_length_le (by omega)], by simp [Heap.slOk, h3]⟩
theorem Gr.ext {B G : Heap} (h : Gr c sz B G v l) (G' : Heap) : Gr c sz B (G ++ G') v l := Grown.ext h G'
theorem Gr.push {B G : Heap} {bytes lim : Nat} (h : Gr c sz B G v l) (X : Heap) (x : α) (hc : (c x).length = sz) (hlim : lim ≤ B.length) (hb : (l.length + 1) * bytes ≤ 140737488355328) :
    ∃ v' G', appendV (B ++ (G ++ (X ++ [.rw 0 sz (c x)]))) lim sz bytes v (.sl (B.length + (G.length + X.length)) 0 0 1 true) = some (v', B ++ G') ∧ Gr c sz B G' v' (l ++ [x]) := by
  have := Grown.push (h.ext X) (bytes := bytes) (lim := lim) (c x) hc hlim hb
  obtain ⟨v', G', h1, h2⟩ := this
  refine ⟨v', G', ?_, ?_⟩
  · rw [List.length_append, List.append_assoc] at h1; exact h1
  · unfold Gr; rw [List.length_append, cat_append, cat_one]; exact h2
theorem Gr.push0 {B G : Heap} {bytes lim : Nat} (h : Gr c sz B G v l) (x : α) (hc : (c x).length = sz) (hlim : lim ≤ B.length) (hb : (l.length + 1) * bytes ≤ 140737488355328) :
    ∃ v' G', appendV (B ++ (G ++ [.rw 0 sz (c x)])) lim sz bytes v (.sl (B.length + G.length) 0 0 1 true) = some (v', B ++ G') ∧ Gr c sz B G' v' (l ++ [x]) := h.push [] x hc hlim hb
theorem Gr.push1 {B G : Heap} {bytes lim : Nat} (h : Gr c sz B G v l) (b1 : Blk) (x : α) (hc : (c x).length = sz) (hlim : lim ≤ B.length) (hb : (l.length + 1) * bytes ≤ 140737488355328) :
    ∃ v' G', appendV (B ++ (G ++ [b1, .rw 0 sz (c x)])) lim sz bytes v (.sl (B.length + (G.length + 1)) 0 0 1 true) = some (v', B ++ G') ∧ Gr c sz B G' v' (l ++ [x]) := h.push [b1] x hc hlim hb
theorem Gr.push2 {B G : Heap} {bytes lim : Nat} (h : Gr c sz B G v l) (b1 b2 : Blk) (x : α) (hc : (c x).length = sz) (hlim : lim ≤ B.length) (hb : (l.length + 1) * bytes ≤ 140737488355328) :
    ∃ v' G', appendV (B ++ (G ++ [b1, b2, .rw 0 sz (c x)])) lim sz bytes v (.sl (B.length + (G.length + 2)) 0 0 1 true) = some (v', B ++ G') ∧ Gr c sz B G' v' (l ++ [x]) := h.push [b1, b2] x hc hlim hb
/-- Behind its making it stands alone. -/
theorem Gr.keep {L G : Heap} (h : Gr c sz (H ++ L) G v l) (hf : ∀ x, AV.flats (c x) = true) : ∃ v' L', finish .slices H.length v (H ++ (L ++ G)) = some (v', H ++ L') ∧ Gr c sz H L' v' l := by
  obtain ⟨h0, ⟨h1, rfl⟩ | ⟨id, ver, h1, rfl, h3⟩⟩ := h
  · exact ⟨.nils, [], by rw [finish_nils, List.append_nil], h0, Or.inl ⟨h1, rfl⟩⟩
  · have h1' : H.length ≤ id := by simp at h1; omega
    obtain ⟨j, rfl⟩ : ∃ j, id = H.length + j := ⟨id - H.length, by omega⟩
    rw [List.append_assoc, List.getElem?_append_right (Nat.le_add_right _ _), Nat.add_sub_cancel_left] at h3
    refine ⟨.sl H.length ver 0 l.length false, [.rw ver sz (cat c l)], ?_, h0, Or.inr ⟨H.length, ver, Nat.le_refl _, rfl, ?_⟩⟩
    · rw [finish_keep, h3, keepB_rw, if_pos (cat_flats hf l)]
    · rw [List.getElem?_append_right (Nat.le_refl _), Nat.sub_self]; rfl
theorem Gr.keep0 {G : Heap} (h : Gr c sz H G v l) (hf : ∀ x, AV.flats (c x) = true) : ∃ v' L', finish .slices H.length v (H ++ G) = some (v', H ++ L') ∧ Gr c sz H L' v' l := by
  have h' : Gr c sz (H ++ []) G v l := by rw [List.append_nil]; exact h
  exact h'.keep hf
/-- A slice over a block of its own, above B. -/
def Ow (c : α → List AV) (sz : Nat) (B G : Heap) (v : AV) (l : List α) : Prop := (l = [] ∧ v = .nils) ∨ ∃ id ver m, B.length ≤ id ∧ v = .sl id ver 0 l.length m ∧ (B ++ G)[id]? = some (.rw ver sz (cat c l))
theorem Gr.ow {B G : Heap} (h : Gr c sz B G v l) : Ow c sz B G v l := by
  obtain ⟨h0, ⟨h1, h2⟩ | ⟨id, ver, h1, h2, h3⟩⟩ := h
  · exact Or.inl ⟨List.eq_nil_of_length_eq_zero h1, h2⟩
  · exact Or.inr ⟨id, ver, false, h1, h2, h3⟩
theorem Ow.lst {B G : Heap} (hc : ∀ x, (c x).length = sz) (h : Ow c sz B G v l) : Lst c sz (B ++ G) v l := by
  rcases h with h | ⟨id, ver, m, h1, h2, h3⟩
  · exact Or.inl h
  · have := cat_length hc l
    exact Or.inr ⟨id, ver, 0, m, cat c l, h2, Heap.cells_of h3, by omega, by rw [List.drop_zero, List.take_of_length_le (by omega)], by simp [Heap.slOk, h3]⟩
theorem Ow.ext {B G : Heap} (h : Ow c sz B G v l) (G' : Heap) : Ow c sz B (G ++ G') v l := by
  rcases h with h | ⟨id, ver, m, h1, h2, h3⟩
  · exact Or.inl h
  · exact Or.inr ⟨id, ver, m, h1, h2, by rw [← List.append_assoc]; exact Heap.app_of h3 _⟩
theorem Ow.notup {B G : Heap} (h : Ow c sz B G v l) : ∀ vs, v ≠ .tup vs := by
  rcases h with ⟨_, rfl⟩ | ⟨id, ver, m, h1, rfl, h3⟩ <;> intro vs h <;> cases h
theorem Ow.keep {L G : Heap} (h : Ow c sz (H ++ L) G v l) (hf : ∀ x, AV.flats (c x) = true) : ∃ v' L', finish .slices H.length v (H ++ (L ++ G)) = some (v', H ++ L') ∧ Ow c sz H L' v' l := by
  rcases h with ⟨h1, rfl⟩ | ⟨id, ver, m, h1, rfl, h3⟩
  · exact ⟨.nils, [], by rw [finish_nils, List.append_nil], Or.inl ⟨h1, rfl⟩⟩
  · have h1' : H.length ≤ id := by simp at h1; omega
    obtain ⟨j, rfl⟩ : ∃ j, id = H.length + j := ⟨id - H.length, by omega⟩
    rw [List.append_assoc, List.getElem?_append_right (Nat.le_add_right _ _), Nat.add_sub_cancel_left] at h3
    refine ⟨.sl H.length ver 0 l.length m, [.rw ver sz (cat c l)], ?_, Or.inr ⟨H.length, ver, m, Nat.le_refl _, rfl, ?_⟩⟩
    · rw [finish_keep, h3, keepB_rw, if_pos (cat_flats hf l)]
    · rw [List.getElem?_append_right (Nat.le_refl _), Nat.sub_self]; rfl
theorem Ow.keep0 {G : Heap} (h : Ow c sz H G v l) (hf : ∀ x, AV.flats (c x) = true) : ∃ v' L', finish .slices H.length v (H ++ G) = some (v', H ++ L') ∧ Ow c sz H L' v' l := by
  have h' : Ow c sz (H ++ []) G v l := by rw [List.append_nil]; exact h
  exact h'.keep hf
/-- An element more, whatever room there is. -/
theorem Ow.push {B G : Heap} {bytes lim : Nat} (hcl : ∀ x, (c x).length = sz) (h : Ow c sz B G v l) (X : Heap) (x : α) (hlim : lim ≤ B.length) (hb : (l.length + 1) * bytes ≤ 140737488355328) :
    ∃ v' G', appendV (B ++ (G ++ (X ++ [.rw 0 sz (c x)]))) lim sz bytes v (.sl (B.length + (G.length + X.length)) 0 0 1 true) = some (v', B ++ G') ∧ Gr c sz B G' v' (l ++ [x]) := by
  rcases h with ⟨rfl, rfl⟩ | ⟨id, ver, m, h1, rfl, h3⟩
  · exact (Gr.nil (c := c) (B := B) (G := G)).push X x (hcl x) hlim hb
  · have h4 : (B ++ (G ++ X))[id]? = some (.rw ver sz (cat c l)) := by rw [← List.append_assoc]; exact Heap.app_of h3 X
    have hcat := cat_length hcl l
    obtain ⟨id', ver', H1, ha, hat, hid, hlt, hold⟩ := append_ex (bytes := bytes) (lim := lim) (n := l.length) (l := m) (xs := cat c l) (ys := c x) h4 (by omega) (by omega) (by rw [List.take_of_length_le (by omega)]) (hcl x) hb
    have e1 : H1 = B ++ H1.drop B.length := by
      have : H1.take B.length = B := by
        apply List.ext_getElem?
        intro i
        rw [List.getElem?_take]
        split
        · rename_i hi
          rw [hold i (by simp only [List.length_append]; omega) (by omega), List.getElem?_append_left hi]
        · rename_i hi
          rw [List.getElem?_eq_none (by omega)]
      rw [← List.take_append_drop B.length H1, this]
      simp
    refine ⟨.sl id' ver' 0 (l.length + 1) false, H1.drop B.length, ?_, ?_⟩
    · rw [← e1]
      rw [List.append_assoc, List.append_assoc] at ha
      rw [show B.length + (G.length + X.length) = (B ++ (G ++ X)).length by simp]
      exact ha
    · refine ⟨by rw [cat_append, cat_one, List.length_append, hcat, hcl, List.length_append, List.length_singleton, Nat.succ_mul], Or.inr ⟨id', ver', ?_, by rw [List.length_append]; rfl, ?_⟩⟩
      · rcases hid with rfl | hid
        · exact h1
        · simp only [List.length_append] at hid; omega
      · rw [← e1, hat, cat_append, cat_one]
theorem Ow.push0 {B G : Heap} {bytes lim : Nat} (hcl : ∀ x, (c x).length = sz) (h : Ow c sz B G v l) (x : α) (hlim : lim ≤ B.length) (hb : (l.length + 1) * bytes ≤ 140737488355328) :
    ∃ v' G', appendV (B ++ (G ++ [.rw 0 sz (c x)])) lim sz bytes v (.sl (B.length + G.length) 0 0 1 true) = some (v', B ++ G') ∧ Gr c sz B G' v' (l ++ [x]) := h.push hcl [] x hlim hb
theorem putCells_get : ∀ (vs cs : List AV) (o j : Nat), o + vs.length ≤ cs.length → (putCells cs o vs)[j]? = if o ≤ j ∧ j < o + vs.length then vs[j - o]? else cs[j]?
  | [], cs, o, j, h => by rw [putCells_nil, if_neg]; simp only [List.length_nil]; omega
  | w :: vs, cs, o, j, h => by
    simp only [List.length_cons] at h ⊢
    rw [putCells_cons, putCells_get vs (cs.set o w) (o + 1) j (by rw [List.length_set]; omega)]
    by_cases h1 : o + 1 ≤ j ∧ j < o + 1 + vs.length
    · rw [if_pos h1, if_pos (by omega), show j - o = (j - (o + 1)) + 1 by omega, List.getElem?_cons_succ]
    · rw [if_neg h1]
      by_cases h2 : j = o
      · subst h2
        rw [if_pos (by omega), Nat.sub_self, List.getElem?_set_self (by omega)]; rfl
      · rw [if_neg (by omega), List.getElem?_set_ne (by omega)]
theorem cat_set (hc : ∀ x, (c x).length = sz) {l : List α} {k : Nat} (hk : k < l.length) (x : α) : putCells (cat c l) (k * sz) (c x) = cat c (l.set k x) := by
  induction l generalizing k with
  | nil => simp at hk
  | cons y l ih =>
    cases k with
    | zero =>
      rw [List.set_cons_zero, cat, cat, Nat.zero_mul]
      apply List.ext_getElem?
      intro j
      rw [putCells_get _ _ _ _ (by rw [List.length_append, hc, hc]; omega)]
      by_cases hj : j < sz
      · rw [if_pos (by rw [hc]; omega), List.getElem?_append_left (by rw [hc]; exact hj), Nat.sub_zero]
      · rw [if_neg (by rw [hc]; omega), List.getElem?_append_right (by rw [hc]; omega), List.getElem?_append_right (by rw [hc]; omega), hc, hc]
    | succ k =>
      have hk' : k < l.length := by simpa using hk
      rw [List.set_cons_succ, cat, cat, ← ih hk']
      have hfit : k * sz + sz ≤ l.length * sz := by
        have := Nat.mul_le_mul_right sz (show k + 1 ≤ l.length by omega)
        rwa [Nat.succ_mul] at this
      apply List.ext_getElem?
      intro j
      rw [putCells_get _ _ _ _ (by rw [List.length_append, hc, hc, cat_length hc, Nat.succ_mul]; omega)]
      by_cases hj : j < sz
      · rw [if_neg (by rw [Nat.succ_mul]; omega), List.getElem?_append_left (by rw [hc]; exact hj), List.getElem?_append_left (by rw [hc]; exact hj)]
      · rw [List.getElem?_append_right (l₁ := c y) (by rw [hc]; omega), List.getElem?_append_right (l₁ := c y) (by rw [hc]; omega), putCells_get _ _ _ _ (by rw [hc, cat_length hc]; omega), hc, hc, Nat.succ_mul]
        by_cases h2 : k * sz + sz ≤ j ∧ j < k * sz + sz + sz
        · rw [if_pos h2, if_pos (by omega), show j - (k * sz + sz) = j - sz - k * sz by omega]
        · rw [if_neg h2, if_neg (by omega)]
/-- An element is written. -/
theorem Ow.set {G : Heap} {lim : Nat} (h : Ow c sz H G v l) (hc : ∀ x, (c x).length = sz) {k : Nat} (hk : k < l.length) (x : α) (hlim : lim ≤ H.length) :
    ∃ id ver p G', (∀ X, iaddrSV (H ++ (G ++ X)) sz v (.int .i64 (k : Int)) = some (.ptr id ver p)) ∧ (∀ X, Heap.write (H ++ (G ++ X)) lim id ver p (c x) = some (H ++ (G' ++ X))) ∧ G'.length = G.length ∧ Ow c sz H G' v (l.set k x) := by
  rcases h with ⟨rfl, rfl⟩ | ⟨id, ver, m, h1, rfl, h3⟩
  · simp at hk
  · have hb : ∀ X, (H ++ (G ++ X))[id]? = some (.rw ver sz (cat c l)) := fun X => by rw [← List.append_assoc]; exact Heap.app_of h3 X
    have hid := Heap.lt_of h3
    rw [List.length_append] at hid
    have hfit : k * sz + (c x).length ≤ (cat c l).length := by
      have := Nat.mul_le_mul_right sz (show k + 1 ≤ l.length by omega)
      rw [Nat.succ_mul] at this
      rw [hc, cat_length hc]; exact this
    refine ⟨id, ver, k * sz, G.set (id - H.length) (.rw ver sz (cat c (l.set k x))), fun X => ?_, fun X => ?_, List.length_set, Or.inr ⟨id, ver, m, h1, by rw [List.length_set], ?_⟩⟩
    · simp [iaddrSV, Heap.cells_of (hb X), hk]
    · unfold Heap.write
      rw [hb X]
      simp only
      rw [if_pos ⟨trivial, hfit, fun g => by omega⟩, cat_set hc hk, List.set_append_right _ _ h1, List.set_append_left _ _ (by omega)]
    · rw [List.getElem?_append_right h1, List.getElem?_set_self (by omega)]
theorem Ow.setE {G : Heap} {lim : Nat} (h : Ow c sz H G v l) (hc : ∀ x, (c x).length = sz) {k : Nat} {y : α} {id ver p : Nat} (hk : k < l.length) (E : Elem c sz (H ++ G) v k y id ver p) (x : α) (hlim : lim ≤ H.length) :
    ∃ G', Heap.write (H ++ G) lim id ver p (c x) = some (H ++ G') ∧ (∀ X, Heap.write (H ++ (G ++ X)) lim id ver p (c x) = some (H ++ (G' ++ X))) ∧ G'.length = G.length ∧ Ow c sz H G' v (l.set k x) := by
  obtain ⟨id', ver', p', G', s1, s2, s3, s4⟩ := h.set hc hk x hlim
  have e1 := s1 []
  rw [List.append_nil, E.adr'] at e1
  simp only [Option.some.injEq, AV.ptr.injEq] at e1
  obtain ⟨rfl, rfl, rfl⟩ := e1
  refine ⟨G', ?_, s2, s3, s4⟩
  have := s2 []
  rwa [List.append_nil, List.append_nil] at this
end
theorem Lst.lit {α : Type} {c : α → List AV} {sz : Nat} (hc : ∀ x, (c x).length = sz) (B G : Heap) (l : List α) (m : Bool) : Lst c sz (B ++ (.rw 0 sz (cat c l) :: G)) (.sl B.length 0 0 l.length m) l := by
  have := cat_length hc l
  exact Or.inr ⟨B.length, 0, 0, m, cat c l, rfl, by rw [Heap.cells_tl0, Heap.cells_zero_rw], by omega, by rw [List.drop_zero, List.take_of_length_le (by omega)], by simp [Heap.slOk]⟩
theorem finish_two {n0 : Nat} {v v' : AV} {H H' : Heap} (k : Int) (hv : finish .slices n0 v H = some (v', H')) (ht : ∀ vs, v ≠ .tup vs) : finish .slices n0 (.tup [v, .int .i64 k]) H = some (.tup [v', .int .i64 k], H') := by
  have e : finish .slices n0 v H = (keepOne n0 H v (H.take n0) []).map fun x => (x.1, x.2.1) := by
    cases v <;> first | rfl | exact absurd rfl (ht _)
  rw [e, Option.map_eq_some_iff] at hv
  obtain ⟨⟨x, A, u⟩, h1, h2⟩ := hv
  simp only [Prod.mk.injEq] at h2
  obtain ⟨rfl, rfl⟩ := h2
  have ki : ∀ A u, keepOne n0 H (.int .i64 k) A u = some (.int .i64 k, A, u) := fun _ _ => rfl
  simp only [finish, keepAll, h1, ki, Option.bind_some, Option.map_some]
theorem Gr.notup {α : Type} {c : α → List AV} {sz : Nat} {B G : Heap} {v : AV} {l : List α} (h : Gr c sz B G v l) : ∀ vs, v ≠ .tup vs := by
  obtain ⟨h0, ⟨h1, rfl⟩ | ⟨id, ver, h1, rfl, h3⟩⟩ := h <;> intro vs h <;> cases h
theorem get_of_lt {α : Type} {l : List α} {k : Nat} (h : k < l.length) : ∃ x, l[k]? = some x ∧ l.drop k = x :: l.drop (k + 1) := ⟨l[k], List.getElem?_eq_getElem h, List.drop_eq_getElem_cons h⟩
theorem take_succ_of {α : Type} {l : List α} {k : Nat} {r : α} (h : l[k]? = some r) : l.take (k + 1) = l.take k ++ [r] := by rw [List.take_add_one, h]; rfl
theorem wrap_succ {k : Nat} (h : k < 1000000) : IntKind.wrap .i64 ((k : Int) + 1) = ((k + 1 : Nat) : Int) := by rw [wrap_i64] <;> omega
theorem lt_true {k n : Nat} (h : k < n) : decide ((k : Int) < (n : Int)) = true := by rw [decide_eq_true_eq]; omega
theorem lt_false (n : Nat) : decide ((n : Int) < (n : Int)) = false := by simp
theorem callvV_fn (C : Oracle) (lim : Nat) (H : Heap) (q : Bool) (g : Nat) (caps args : List AV) : callvV C lim H q (.fn g caps) args = quietly q H (C lim g (args ++ caps) H) := rfl
theorem Env.ofList_four (a b c d x : AV) (l : List AV) : Env.ofList (a :: b :: c :: d :: x :: l) 4 = x := rfl
theorem Env.ofList_five (a b c d x y : AV) (l : List AV) : Env.ofList (a :: b :: c :: d :: x :: y :: l) 5 = y := rfl
attribute [go_sem] Nat.zero_le callvV_fn Env.ofList_four Env.ofList_five
end Go.AM
