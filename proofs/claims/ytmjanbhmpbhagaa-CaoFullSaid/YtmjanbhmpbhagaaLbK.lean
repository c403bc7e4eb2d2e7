/- OPENING ARGUMENTS: flat values and slices of them, as the abstract machine has them. Conditions: none. -/
import Derived.Test.YtmjanbhmpbhagaaLbS
import Derived.OpenShut
import Derived.WideShapes
set_option linter.unusedVariables false
set_option linter.unusedSimpArgs false
namespace Go.AM
open Go.ChangeShapes Go.RowKit
/-- What a cell of a flat value may be. -/
inductive LK where
  | b
  | i (k : IntKind)
  deriving DecidableEq
def LOk : LK → Value → Prop
  | .b, v => ∃ b, v = .bool b
  | .i k, v => ∃ n, v = .int k n ∧ (Lit.int k n).wf = true
/-- A type's cells are of these kinds. -/
def isFlat (P : Program) : Nat → TypeId → List LK → Bool
  | 0, _, _ => false
  | n + 1, t, ks =>
    match P.underlying t with
    | some .bool => ks == [.b]
    | some (.int k) => ks == [.i k]
    | some (.struct fs) => ks.length == P.cellsOf t && (fs.toList.all fun f => isFlat P n f.type ((ks.drop f.offset).take (P.cellsOf f.type))) &&
        (List.range ks.length).all fun j => fs.toList.any fun f => decide (f.offset ≤ j ∧ j < f.offset + P.cellsOf f.type)
    | some (.array m e) => ks.length == P.cellsOf t && ((List.range m).all fun i => isFlat P n e ((ks.drop (i * P.cellsOf e)).take (P.cellsOf e))) &&
        (List.range ks.length).all fun j => (List.range m).any fun i => decide (i * P.cellsOf e ≤ j ∧ j < i * P.cellsOf e + P.cellsOf e)
    | _ => false
structure CellsOk (ks : List LK) (cs : List Value) : Prop where
  len : cs.length = ks.length
  ok : ∀ (j : Nat) (k : LK) (v : Value), ks[j]? = some k → cs[j]? = some v → LOk k v
theorem CellsOk.nil {cs : List Value} (h : CellsOk [] cs) : cs = [] := List.eq_nil_of_length_eq_zero (by simpa using h.len)
theorem CellsOk.cons {k : LK} {ks : List LK} {cs : List Value} (h : CellsOk (k :: ks) cs) : ∃ v r, cs = v :: r ∧ LOk k v ∧ CellsOk ks r := by
  cases cs with
  | nil => have := h.len; simp at this
  | cons v r => exact ⟨v, r, rfl, h.ok 0 k v rfl rfl, by have := h.len; simpa using this, fun j k' v' h1 h2 => h.ok (j + 1) k' v' h1 h2⟩
section
variable {H : Type} {enc : TypeId × Value → H} {P : Program} {w : World} {base : Nat} {spare : Nat → Bool} {held : Bool}
theorem isFlat_trod : ∀ (n : Nat) (t : TypeId) (ks : List LK) (fuel : Nat) (cs : List Value) (x : DataW H × List MemPlace), isFlat P n t ks = true → DataW.trod enc P w base spare held fuel t cs = some x → CellsOk ks cs
  | 0, t, ks, fuel, cs, x, hf, h => by cases hf
  | n + 1, t, ks, fuel, cs, x, hf, h => by
    unfold isFlat at hf
    split at hf
    · rename_i ht
      obtain ⟨b, rfl, _⟩ := DataW.trod_bool ht h
      have : ks = [.b] := by simpa using hf
      subst this
      refine ⟨rfl, fun j k v h1 h2 => ?_⟩
      cases j with
      | zero => simp at h1 h2; subst h1; subst h2; exact ⟨b, rfl⟩
      | succ j => simp at h1
    · rename_i k ht
      obtain ⟨m, rfl, _, hw⟩ := DataW.trod_int ht h
      have : ks = [.i k] := by simpa using hf
      subst this
      refine ⟨rfl, fun j k' v h1 h2 => ?_⟩
      cases j with
      | zero => simp at h1 h2; subst h1; subst h2; exact ⟨m, rfl, hw⟩
      | succ j => simp at h1
    · rename_i fs ht
      obtain ⟨xs, m, rfl, _, hl, hxl, hx⟩ := DataW.trod_struct ht h
      simp only [Bool.and_eq_true, beq_iff_eq, List.all_eq_true] at hf
      obtain ⟨⟨hl2, hf1⟩, hf2⟩ := hf
      refine ⟨by omega, fun j k v h1 h2 => ?_⟩
      have hj : j < ks.length := (List.getElem?_eq_some_iff.1 h1).1
      obtain ⟨f, hfm, hfo⟩ := List.any_eq_true.1 (hf2 j (by simpa using hj))
      rw [decide_eq_true_eq] at hfo
      obtain ⟨i, hi⟩ := List.getElem?_of_mem hfm
      have hi' : fs[i]? = some f := by simpa using hi
      have hx' := hx i f hi'
      have hil : i < xs.length := by rw [hxl]; exact (Array.getElem?_eq_some_iff.1 hi').1
      rw [List.getElem?_eq_getElem hil] at hx'
      have ih := isFlat_trod n f.type _ m _ _ (hf1 f hfm) hx'
      refine ih.ok (j - f.offset) k v ?_ ?_
      · rw [List.getElem?_take, if_pos (by omega), List.getElem?_drop, show f.offset + (j - f.offset) = j by omega]; exact h1
      · rw [List.getElem?_take, if_pos (by omega), List.getElem?_drop, show f.offset + (j - f.offset) = j by omega]; exact h2
    · rename_i m e ht
      obtain ⟨xs, q, rfl, _, hl, hxl, hx⟩ := DataW.trod_array ht h
      simp only [Bool.and_eq_true, beq_iff_eq, List.all_eq_true] at hf
      obtain ⟨⟨hl2, hf1⟩, hf2⟩ := hf
      refine ⟨by omega, fun j k v h1 h2 => ?_⟩
      have hj : j < ks.length := (List.getElem?_eq_some_iff.1 h1).1
      obtain ⟨i, him, hfo⟩ := List.any_eq_true.1 (hf2 j (by simpa using hj))
      rw [decide_eq_true_eq] at hfo
      have him' : i < m := by simpa using him
      have hx' := hx i him'
      rw [List.getElem?_eq_getElem (by omega)] at hx'
      have ih := isFlat_trod n e _ q _ _ (hf1 i him) hx'
      refine ih.ok (j - i * P.cellsOf e) k v ?_ ?_
      · rw [List.getElem?_take, if_pos (by omega), List.getElem?_drop, show i * P.cellsOf e + (j - i * P.cellsOf e) = j by omega]; exact h1
      · rw [List.getElem?_take, if_pos (by omega), List.getElem?_drop, show i * P.cellsOf e + (j - i * P.cellsOf e) = j by omega]; exact h2
    · cases hf
/-- An argument of a struct's type. -/
theorem open_flat {r : Reach} {b0 : Nat} {t : TypeId} {v : Value} {d : DataW H} {ps : List MemPlace} {fs : Array Field} {n : Nat} {ks : List LK} (ht : P.underlying t = some (.struct fs)) (hf : isFlat P n t ks = true) (hval : Value.okWide P w r b0 t v) (hd : DataW.Trod enc P w base spare held t v d ps) :
    ∃ cs : List Value, v = .agg cs.toArray ∧ CellsOk ks cs := by
  unfold Value.okWide at hval
  rw [ht] at hval
  obtain ⟨cs, rfl, _, _⟩ := hval
  obtain ⟨fuel, hd⟩ := hd
  exact ⟨cs.toList, by simp, isFlat_trod n t ks fuel _ _ hf hd⟩
theorem open_flatA {r : Reach} {b0 : Nat} {t e : TypeId} {m : Nat} {v : Value} {d : DataW H} {ps : List MemPlace} {n : Nat} {ks : List LK} (ht : P.underlying t = some (.array m e)) (hf : isFlat P n t ks = true) (hval : Value.okWide P w r b0 t v) (hd : DataW.Trod enc P w base spare held t v d ps) :
    ∃ cs : List Value, v = .agg cs.toArray ∧ CellsOk ks cs := by
  unfold Value.okWide at hval
  rw [ht] at hval
  obtain ⟨cs, rfl, _, _⟩ := hval
  obtain ⟨fuel, hd⟩ := hd
  exact ⟨cs.toList, by simp, isFlat_trod n t ks fuel _ _ hf hd⟩
/-- An argument that is a slice of flat elements. -/
theorem open_slice {α : Type} (c : α → List AV) {t e : TypeId} {v : Value} {d : DataW H} {ps : List MemPlace} {n b0 : Nat} {r : Reach} {ks : List LK} (ht : P.underlying t = some (.slice e)) (hf : isFlat P n e ks = true) (hsz : P.cellsOf e = ks.length)
    (hc : ∀ cs, CellsOk ks cs → ∃ x : α, (c x).all AV.one = true ∧ ∀ φ, VRels φ (c x) cs)
    (hval : Value.okWide P w r b0 t v) (hd : DataW.Trod enc P w base spare held t v d ps) :
    ∃ (l : List α) (φ : Map) (H0 : Heap) (av : AV), Rel w φ H0 w ∧ VRel φ av v ∧ ((l.length = 0 ∧ av = .nils) ∨ ∃ id ver m, av = .sl id ver 0 l.length m ∧ H0.cells id ver = some (cat c l) ∧ H0.slOk id ver ks.length = true ∧ (cat c l).length = l.length * ks.length) := by
  obtain ⟨fuel, hd⟩ := hd
  have hval' : Cell.okWide P w r b0 t v := by unfold Value.okWide at hval; rw [ht] at hval; exact hval
  have hcell : v.cells.toList = [v] := by
    unfold Cell.okWide Cell.ok at hval'
    rw [ht] at hval'
    cases v <;> simp_all [Value.cells]
  rw [hcell] at hd
  rcases DataW.trod_slice ht hd with ⟨h, _⟩ | ⟨a, len, cap, elems, rest, m, _, h, _, hb, hlc, _, hel, hx, _⟩
  · cases h
    exact ⟨[], [], [], .nils, ⟨rfl, Below.refl _ _, fun id B h => by simp at h, fun i j L M h => by simp at h⟩, by simp only [VRel], Or.inl ⟨rfl, rfl⟩⟩
  · cases h
    have hhas : w.has P r b0 a e cap := by
      unfold Cell.okWide Cell.ok at hval'
      rw [ht] at hval'
      exact hval'.2.2
    obtain ⟨_, hspot, row, cells, hsh, _⟩ := hhas
    obtain ⟨ab, ao, asp⟩ := a
    simp only at hspot hsh hb
    subst hspot
    have hlt : ab < w.heap.size := by
      unfold World.shape? at hsh
      split at hsh
      · rename_i h; exact (Array.getElem?_eq_some_iff.1 h).1
      · cases hsh
    -- the elements
    have hcl : ∀ k, k ≤ len → ∃ l : List α, l.length = k ∧ (cat c l).all AV.one = true ∧ ∃ vs : List Value, vs.length = k * ks.length ∧ (∀ φ, VRels φ (cat c l) vs) ∧ ∀ (j : Nat) (u : Value), vs[j]? = some u → w.cell? ⟨ab, ao + j, none⟩ = some u := by
      intro k
      induction k with
      | zero => intro _; exact ⟨[], rfl, rfl, [], by simp, fun φ => by simp only [cat, VRels], fun j u h => by simp at h⟩
      | succ k ih =>
        intro hk
        obtain ⟨l, h1, h2, vs, h3, h4, h5⟩ := ih (by omega)
        have hxk := hx k (by omega)
        rw [List.getElem?_eq_getElem (by omega), Option.bind_eq_some_iff] at hxk
        obtain ⟨cs, hcs, htr⟩ := hxk
        obtain ⟨_, hcl, hce⟩ := World.cells?_some hcs
        have hok := isFlat_trod n e ks m cs _ hf htr
        obtain ⟨x, hx1, hx2⟩ := hc cs hok
        refine ⟨l ++ [x], by simp [h1], ?_, vs ++ cs, ?_, ?_, ?_⟩
        · rw [cat_eq, List.map_append, List.flatten_append, List.all_append, ← cat_eq, h2]; simp [hx1]
        · rw [List.length_append, h3, hok.len, Nat.succ_mul]
        · intro φ
          have e1 : cat c (l ++ [x]) = cat c l ++ c x := by rw [cat_eq, cat_eq]; simp
          rw [e1]
          exact (h4 φ).append (hx2 φ)
        · intro j u hu
          by_cases hj : j < vs.length
          · rw [List.getElem?_append_left hj] at hu; exact h5 j u hu
          · rw [List.getElem?_append_right (by omega)] at hu
            have hjl : j - vs.length < cs.length := (List.getElem?_eq_some_iff.1 hu).1
            have := hce (j - vs.length) (by omega)
            rw [hu] at this
            rw [← this]
            congr 1
            unfold Addr.add
            have e2 : k * ks.length = vs.length := h3.symm
            rw [hsz]
            split <;> split <;> simp <;> omega
    obtain ⟨l, h1, h2, vs, h3, h4, h5⟩ := hcl len (Nat.le_refl _)
    refine ⟨l, [⟨ab, ao, 0, ks.length, 0, false⟩], [.ro (cat c l)], .sl 0 0 0 l.length false, ⟨rfl, Below.refl _ _, ?_, ?_⟩, ?_, Or.inr ⟨0, 0, false, rfl, ?_⟩⟩
    · intro id B hB
      cases id with
      | succ id => simp at hB
      | zero =>
        simp at hB
        subst hB
        refine ⟨_, rfl, ?_⟩
        simp only [BRel]
        exact ⟨trivial, trivial, hlt, h2, vs, h4 _, h5⟩
    · intro i j L M hi hj hL hM _
      cases i with
      | zero => simp at hi; subst hi; cases hL
      | succ i => simp at hi
    · simp only [VRel]
      refine ⟨⟨ab, ao, 0, ks.length, 0, false⟩, rfl, Nat.le_refl _, ⟨_, _, _, rfl⟩, fun _ => ⟨cap, ao, by rw [h1], by omega, fun _ => rfl, fun h => (by cases h), fun h => (by cases h)⟩⟩
    · refine ⟨by simp [Heap.cells, Blk.ver, Blk.cells], by simp [Heap.slOk], ?_⟩
      rw [(h4 []).length, h3, h1]
end
theorem Lst.of {α : Type} {c : α → List AV} {sz : Nat} {H0 : Heap} {v : AV} {l : List α} (h : (l.length = 0 ∧ v = .nils) ∨ ∃ id ver m, v = .sl id ver 0 l.length m ∧ H0.cells id ver = some (cat c l) ∧ H0.slOk id ver sz = true ∧ (cat c l).length = l.length * sz) : Lst c sz H0 v l := by
  rcases h with ⟨h1, h2⟩ | ⟨id, ver, m, h1, h2, h3, h4⟩
  · exact Or.inl ⟨List.eq_nil_of_length_eq_zero h1, h2⟩
  · exact Or.inr ⟨id, ver, 0, m, cat c l, h1, h2, by omega, by rw [List.drop_zero, List.take_of_length_le (by omega)], h3⟩
theorem rel_nil (w : World) : Rel w [] [] w := ⟨rfl, Below.refl _ _, fun id B h => by simp at h, fun i j L M h => by simp at h⟩
theorem wf_i64 {n : Int} (h : (Lit.int .i64 n).wf = true) : -9223372036854775808 ≤ n ∧ n ≤ 9223372036854775807 := by
  simp [Lit.wf, IntKind.min, IntKind.max, IntKind.signed, IntKind.bits] at h; omega
theorem wf_u64 {n : Int} (h : (Lit.int .u64 n).wf = true) : 0 ≤ n ∧ n < 18446744073709551616 := by
  simp [Lit.wf, IntKind.min, IntKind.max, IntKind.signed, IntKind.bits] at h; omega
end Go.AM
namespace Go.AM
theorem cells_adr {ks : List LK} {cs : List Value} (h : CellsOk (.i .u64 :: .i .u64 :: ks) cs) : ∃ (a : Adr) (r : List Value), cs = .int .u64 (hi a).toNat :: .int .u64 (lo a).toNat :: r ∧ CellsOk ks r := by
  obtain ⟨v, r, rfl, ⟨n, rfl, hn⟩, h1⟩ := h.cons
  obtain ⟨u, s, rfl, ⟨m, rfl, hm⟩, h2⟩ := h1.cons
  have hn := wf_u64 hn
  have hm := wf_u64 hm
  refine ⟨mkA (BitVec.ofInt 64 n) (BitVec.ofInt 64 m), s, ?_, h2⟩
  rw [hi_mk, lo_mk, BitVec.toNat_ofInt, BitVec.toNat_ofInt]
  have e1 : (((n % ((2 ^ 64 : Nat) : Int)).toNat : Nat) : Int) = n := by
    rw [show ((2 ^ 64 : Nat) : Int) = 18446744073709551616 from rfl, Int.emod_eq_of_lt hn.1 hn.2]; omega
  have e2 : (((m % ((2 ^ 64 : Nat) : Int)).toNat : Nat) : Int) = m := by
    rw [show ((2 ^ 64 : Nat) : Int) = 18446744073709551616 from rfl, Int.emod_eq_of_lt hm.1 hm.2]; omega
  rw [e1, e2]
theorem cells_int {ks : List LK} {cs : List Value} (h : CellsOk (.i .i64 :: ks) cs) : ∃ (n : Int) (r : List Value), cs = .int .i64 n :: r ∧ CellsOk ks r := by
  obtain ⟨v, r, rfl, ⟨n, rfl, hn⟩, h1⟩ := h.cons
  exact ⟨n, r, rfl, h1⟩
theorem cells_bool {ks : List LK} {cs : List Value} (h : CellsOk (.b :: ks) cs) : ∃ (b : Bool) (r : List Value), cs = .bool b :: r ∧ CellsOk ks r := by
  obtain ⟨v, r, rfl, ⟨b, rfl⟩, h1⟩ := h.cons
  exact ⟨b, r, rfl, h1⟩
theorem VRels.mk0 {φ : Map} : VRels φ [] [] := by simp only [VRels]
theorem VRels.mk {φ : Map} {c : AV} {v : Value} {cs : List AV} {vs : List Value} (h : VRel φ c v) (g : VRels φ cs vs) : VRels φ (c :: cs) (v :: vs) := by simp only [VRels]; exact ⟨v, vs, rfl, h, g⟩
theorem VRel.mkAgg {φ : Map} {cs : List AV} {vs : List Value} (h : cs.all AV.one = true) (g : VRels φ cs vs) : VRel φ (.agg cs) (.agg vs.toArray) := by simp only [VRel]; exact ⟨h, vs, rfl, g⟩
theorem VRel.mkInt {φ : Map} (k : IntKind) (n : Int) : VRel φ (.int k n) (.int k n) := by simp only [VRel]
theorem VRel.mkBool {φ : Map} (b : Bool) : VRel φ (.bool b) (.bool b) := by simp only [VRel]
theorem VRel.mkU {φ : Map} (x : BitVec 64) : VRel φ (u64 x) (.int .u64 x.toNat) := by simp only [u64, VRel]
/-- An address's cells. -/
theorem read_adr (cs : List Value) (h : CellsOk [.i .u64, .i .u64] cs) : ∃ a : Adr, ([u64 (hi a), u64 (lo a)] : List AV).all AV.one = true ∧ ∀ φ, VRels φ [u64 (hi a), u64 (lo a)] cs := by
  obtain ⟨a, r, rfl, h1⟩ := cells_adr h
  have := h1.nil
  subst this
  exact ⟨a, rfl, fun φ => .mk (.mkU _) (.mk (.mkU _) .mk0)⟩
/-- A prefix's. -/
theorem read_pre (cs : List Value) (h : CellsOk [.i .u64, .i .u64, .i .i64] cs) : ∃ x : Adr × Int, ([u64 (hi x.1), u64 (lo x.1), .int .i64 x.2] : List AV).all AV.one = true ∧ ∀ φ, VRels φ [u64 (hi x.1), u64 (lo x.1), .int .i64 x.2] cs := by
  obtain ⟨a, r, rfl, h1⟩ := cells_adr h
  obtain ⟨n, r, rfl, h2⟩ := cells_int h1
  have := h2.nil
  subst this
  exact ⟨(a, n), rfl, fun φ => .mk (.mkU _) (.mk (.mkU _) (.mk (.mkInt _ _) .mk0))⟩
end Go.AM
