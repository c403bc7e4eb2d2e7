/- EQUALITY, SLICING, AND WHAT MAKES OR WRITES MEMORY: the program's form does what the abstract machine says. Conditions: those of each theorem. -/
import Derived.Test.YtmjanbhmpbhagaaAm5
import Derived.ChangeKeysEq
import Derived.Laws.MakeOwn
set_option linter.unusedVariables false
set_option linter.unusedSimpArgs false
namespace Go.AM
open Go.RowKit

section
variable {P : Program} {w0 w : World} {φ : Map} {H : Heap} {a : Act} {e : Env} {o : Oper}

/-! ### equality -/
def mkV (P : Program) (t : TypeId) (xs : List Value) : Value := if aggOf P t then .agg xs.toArray else xs.headD undef

theorem eqLeaves_length : ∀ {p : List Leaf} {xs ys : List AV} {r : Bool}, eqLeaves p xs ys = some r → xs.length = p.length ∧ ys.length = p.length
  | [], [], [], _, _ => ⟨rfl, rfl⟩
  | [], _ :: _, _, _, h => by simp [eqLeaves] at h
  | [], [], _ :: _, _, h => by simp [eqLeaves] at h
  | _ :: _, [], _, _, h => by simp [eqLeaves] at h
  | _ :: _, _ :: _, [], _, h => by simp [eqLeaves] at h
  | l :: p, x :: xs, y :: ys, r, h => by
    simp only [eqLeaves] at h
    split at h
    · rename_i a b h1 h2
      obtain ⟨g1, g2⟩ := eqLeaves_length h2
      simp [g1, g2]
    · cases h
theorem eqLeaves_split : ∀ {p q : List Leaf} {xs ys : List AV} {r : Bool}, eqLeaves (p ++ q) xs ys = some r →
    ∃ r1 r2, eqLeaves p (xs.take p.length) (ys.take p.length) = some r1 ∧ eqLeaves q (xs.drop p.length) (ys.drop p.length) = some r2 ∧ r = (r1 && r2)
  | [], q, xs, ys, r, h => ⟨true, r, by simp [eqLeaves], by simpa using h, by simp⟩
  | l :: p, q, [], ys, r, h => by simp [eqLeaves] at h
  | l :: p, q, x :: xs, [], r, h => by simp [eqLeaves] at h
  | l :: p, q, x :: xs, y :: ys, r, h => by
    simp only [List.cons_append, eqLeaves] at h
    split at h
    · rename_i a b h1 h2
      simp only [Option.some.injEq] at h
      subst h
      obtain ⟨r1, r2, g1, g2, rfl⟩ := eqLeaves_split h2
      exact ⟨a && r1, r2, by simp [eqLeaves, h1, g1], by simpa using g2, by simp [Bool.and_assoc]⟩
    · cases h

theorem run_partV {t : TypeId} {n off : Nat} {xs : Array Value} (hi : (P.info? t).isSome = true) (hu : (P.underlying t).isSome = true) (hn : P.cellsOf t = n) (hfit : off + n ≤ xs.size) (h1 : aggOf P t = false → n = 1) (w : World) :
    (part t xs off).run P w = .ok (mkV P t ((xs.toList.drop off).take n)) w := by
  unfold part mkV
  rw [Sem.run_bind, run_isAgg' hu]
  simp only [Result.andThen_ok]
  cases hagg : aggOf P t
  · have := h1 hagg
    subst this
    have hlt : off < xs.size := by omega
    simp only [Bool.false_eq_true, if_false]
    rw [Array.getElem?_eq_getElem hlt]
    simp only [Sem.run_pure, List.head?_take, List.headD_eq_head?_getD, List.head?_drop]
    simp [hlt]
  · simp only [if_true, Sem.run_bind, run_sizeOf' hi, Result.andThen_ok, Sem.run_pure, hn]
    congr 2
    apply Array.ext'
    rw [Array.toList_extract]
    simp [List.extract]

def LeafT (P : Program) (t : TypeId) : Leaf → Prop
  | .int => ∃ k, P.underlying t = some (.int k)
  | .bool => P.underlying t = some .bool
  | .str => P.underlying t = some .string

theorem scalar_leaf {l : Leaf} {x y : AV} {X Y : Value} {r : Bool} (hx : VRel φ x X) (hy : VRel φ y Y) (h : eqLeaf l x y = some r) {t : TypeId} (D : Nat)
    (ht : LeafT P t l) (w : World) :
    (Op.equalIn (D + 1) t X Y).run P w = .ok r w := by
  unfold eqLeaf at h
  split at h
  · rename_i k n k' m
    split at h
    · rename_i hk
      subst hk
      simp only [Option.some.injEq, VRel] at h hx hy
      subst h; subst hx; subst hy
      obtain ⟨q, hq⟩ := ht
      exact run_equalIn_int w D t k q n m hq
    · cases h
  · simp only [Option.some.injEq, VRel] at h hx hy
    subst h; subst hx; subst hy
    exact run_equalIn_bool' w D t _ _ ht
  · rename_i p q
    simp only [Option.some.injEq, VRel] at h hx hy
    subst h; subst hx; subst hy
    rw [run_equalIn_string w D t p q ht, beq_toListBytes]
  · cases h

theorem info_of_underlying' {t : TypeId} (h : (P.underlying t).isSome = true) : (P.info? t).isSome = true := by
  unfold Program.underlying at h
  cases hi : P.info? t with
  | none => simp [hi] at h
  | some i => rfl
theorem planOf_underlying : ∀ {d : Nat} {t : TypeId} {p : List Leaf}, planOf P d t = some p → (P.underlying t).isSome = true
  | 0, _, _, h => by simp [planOf] at h
  | d + 1, t, p, h => by
    unfold planOf at h
    cases hu : P.underlying t with
    | none => simp [hu] at h
    | some _ => rfl
theorem planOf_size : ∀ {d : Nat} {t : TypeId} {p : List Leaf}, planOf P d t = some p → P.cellsOf t = p.length ∧ (aggOf P t = false → p.length = 1)
  | 0, _, _, h => by simp [planOf] at h
  | d + 1, t, p, h => by
    unfold planOf at h
    unfold aggOf
    cases hu : P.underlying t with
    | none => simp [hu] at h
    | some kd =>
      cases kd <;> simp only [hu] at h ⊢ <;> try (cases h; done)
      case bool => split at h <;> simp_all; subst h; simp_all
      case int => split at h <;> simp_all; subst h; simp_all
      case string => split at h <;> simp_all; subst h; simp_all
      case array n el =>
        split at h
        · rename_i q hq
          split at h
          · rename_i hc
            simp only [Option.some.injEq] at h
            subst h
            refine ⟨?_, by simp⟩
            rw [hc.2, List.length_flatMap, List.map_const', List.sum_replicate_nat, List.length_range]
          · cases h
        · cases h
      case struct fs =>
        split at h
        · cases h
        · split at h
          · split at h
            · rename_i hc
              simp only [Option.some.injEq] at h
              subst h
              exact ⟨hc, by simp⟩
            · cases h
          · cases h

theorem eq_items {D : Nat} {el : TypeId} {q : List Leaf} (hel : ∀ (xs ys : List Value) (xa ya : List AV) (r : Bool), VRels φ xa xs → VRels φ ya ys → eqLeaves q xa ya = some r → ∀ w, (Op.equalIn D el (mkV P el xs) (mkV P el ys)).run P w = .ok r w)
    (hu : (P.underlying el).isSome = true) (hs : P.cellsOf el = q.length) (h1 : aggOf P el = false → q.length = 1) (xs ys : Array Value) :
    ∀ (m i : Nat) (xa ya : List AV) (r : Bool), i * q.length ≤ xs.size → i * q.length ≤ ys.size → VRels φ xa (xs.toList.drop (i * q.length)) → VRels φ ya (ys.toList.drop (i * q.length)) → eqLeaves ((List.range' i m).flatMap fun _ => q) xa ya = some r →
      ∀ w, (Op.eqItems D el q.length xs ys (List.range' i m)).run P w = .ok r w
  | 0, i, xa, ya, r, bx, by_, hx, hy, h, w => by
    obtain ⟨g1, g2⟩ := eqLeaves_length h
    simp only [List.range'_zero, List.flatMap_nil, List.length_nil] at g1 g2 h
    have e1 := List.eq_nil_of_length_eq_zero g1
    have e2 := List.eq_nil_of_length_eq_zero g2
    subst e1; subst e2
    simp only [eqLeaves, Option.some.injEq] at h
    subst h
    simp [Op.eqItems]
  | m + 1, i, xa, ya, r, bx, by_, hx, hy, h, w => by
    rw [List.range'_succ, List.flatMap_cons] at h
    have hl := eqLeaves_length h
    obtain ⟨r1, r2, g1, g2, rfl⟩ := eqLeaves_split h
    have lx := hx.length
    have ly := hy.length
    simp only [List.length_append, List.length_drop, Array.length_toList] at hl lx ly
    have px := run_partV (P := P) (t := el) (n := q.length) (off := i * q.length) (xs := xs) (info_of_underlying' hu) hu hs (by omega) h1 w
    have py := run_partV (P := P) (t := el) (n := q.length) (off := i * q.length) (xs := ys) (info_of_underlying' hu) hu hs (by omega) h1 w
    have he := hel _ _ _ _ _ (hx.take q.length) (hy.take q.length) g1 w
    have hx' := hx.drop q.length
    have hy' := hy.drop q.length
    rw [List.drop_drop] at hx' hy'
    have e1 : i * q.length + q.length = (i + 1) * q.length := by rw [Nat.add_mul]; omega
    rw [e1] at hx' hy'
    have ih := eq_items hel hu hs h1 xs ys m (i + 1) _ _ _ (by omega) (by omega) hx' hy' g2 w
    rw [List.range'_succ]
    simp only [Op.eqItems, Sem.run_bind, px, py, he, Result.andThen_ok]
    cases r1
    · simp
    · simpa using ih

mutual
theorem plan_eq : ∀ (d D : Nat) (t : TypeId) (p : List Leaf), planOf P d t = some p → d ≤ D → ∀ (xs ys : List Value) (xa ya : List AV) (r : Bool), VRels φ xa xs → VRels φ ya ys → eqLeaves p xa ya = some r →
    ∀ w, (Op.equalIn D t (mkV P t xs) (mkV P t ys)).run P w = .ok r w
  | 0, _, _, _, h, _, _, _, _, _, _, _, _, _, _ => by simp [planOf] at h
  | d + 1, 0, _, _, _, hd, _, _, _, _, _, _, _, _, _ => by omega
  | d + 1, D + 1, t, p, h, hd, xs, ys, xa, ya, r, hx, hy, he, w => by
    have hl := eqLeaves_length he
    have lx := hx.length
    have ly := hy.length
    have scalar : ∀ l, p = [l] → aggOf P t = false → LeafT P t l →
        (Op.equalIn (D + 1) t (mkV P t xs) (mkV P t ys)).run P w = .ok r w := by
      intro l hp hagg ht
      subst hp
      match xa, ya, hl with
      | [x], [y], _ =>
        simp only [VRels] at hx hy
        obtain ⟨X, _, rfl, hX, rfl⟩ := hx
        obtain ⟨Y, _, rfl, hY, rfl⟩ := hy
        simp only [eqLeaves] at he
        split at he
        · rename_i a b h1 h2
          simp only [Option.some.injEq] at he h2
          subst h2; subst he
          simp only [mkV, hagg, Bool.false_eq_true, if_false, List.headD_cons, Bool.and_true]
          exact scalar_leaf hX hY h1 D ht w
        · cases he
    unfold planOf at h
    cases hu : P.underlying t with
    | none => simp [hu] at h
    | some kd =>
      cases kd <;> simp only [hu] at h <;> try (cases h; done)
      case bool =>
        split at h
        · simp only [Option.some.injEq] at h
          exact scalar .bool h.symm (by simp [aggOf, hu]) hu
        · cases h
      case int k =>
        split at h
        · simp only [Option.some.injEq] at h
          exact scalar .int h.symm (by simp [aggOf, hu]) ⟨k, hu⟩
        · cases h
      case string =>
        split at h
        · simp only [Option.some.injEq] at h
          exact scalar .str h.symm (by simp [aggOf, hu]) hu
        · cases h
      case array n el =>
        split at h
        · rename_i q hq
          split at h
          · rename_i hc
            simp only [Option.some.injEq] at h
            subst h
            have hue := planOf_underlying hq
            obtain ⟨hs, h1⟩ := planOf_size hq
            have hagg : aggOf P t = true := by simp [aggOf, hu]
            simp only [mkV, hagg, if_true]
            obtain ⟨i, hi⟩ := Option.isSome_iff_exists.1 (info_of_underlying' hue)
            rw [run_equalIn_array w D xs.toArray ys.toArray hu hi, hs, List.range_eq_range']
            rw [List.range_eq_range'] at he
            exact eq_items (fun xs ys xa ya r hx hy he w => plan_eq d D el q hq (by omega) xs ys xa ya r hx hy he w) hue hs h1 xs.toArray ys.toArray n 0 xa ya r (by simp) (by simp) (by simpa using hx) (by simpa using hy) he w
          · cases h
        · cases h
      case struct fs =>
        split at h
        · cases h
        · rename_i hst
          split at h
          · rename_i q hq
            split at h
            · rename_i hc
              simp only [Option.some.injEq] at h
              subst h
              have hagg : aggOf P t = true := by simp [aggOf, hu]
              simp only [mkV, hagg, if_true]
              have hf : P.fieldsOf t = fs := by simp [Program.fieldsOf, hu]
              rw [run_equalIn_struct w D t xs.toArray ys.toArray (by rw [hf]; exact hu) (by simpa using hst), hf]
              exact plan_fs d D fs.toList 0 q hq (by omega) xs.toArray ys.toArray xa ya r (by simp) (by simp) (by simpa using hx) (by simpa using hy) he w
            · cases h
          · cases h
theorem plan_fs : ∀ (d D : Nat) (fs : List Field) (off : Nat) (p : List Leaf), planFs P d fs off = some p → d ≤ D → ∀ (xs ys : Array Value) (xa ya : List AV) (r : Bool), off ≤ xs.size → off ≤ ys.size → VRels φ xa (xs.toList.drop off) → VRels φ ya (ys.toList.drop off) → eqLeaves p xa ya = some r →
    ∀ w, (Op.eqFields D xs ys fs).run P w = .ok r w
  | 0, _, _, _, _, h, _, _, _, _, _, _, _, _, _, _, _, _ => by simp [planFs] at h
  | d + 1, D, [], off, p, h, hd, xs, ys, xa, ya, r, bx, by_, hx, hy, he, w => by
    simp only [planFs, Option.some.injEq] at h
    subst h
    obtain ⟨g1, g2⟩ := eqLeaves_length he
    have e1 := List.eq_nil_of_length_eq_zero g1
    have e2 := List.eq_nil_of_length_eq_zero g2
    subst e1; subst e2
    simp only [eqLeaves, Option.some.injEq] at he
    subst he
    simp [Op.eqFields]
  | d + 1, D, f :: fs, off, p, h, hd, xs, ys, xa, ya, r, bx, by_, hx, hy, he, w => by
    simp only [planFs] at h
    split at h
    · cases h
    · rename_i hn
      rw [not_or] at hn
      obtain ⟨hname, hoff⟩ := hn
      have hoff' : f.offset = off := Classical.not_not.1 hoff
      split at h
      · rename_i q hq
        split at h
        · rename_i hc
          split at h
          · rename_i q2 hq2
            simp only [Option.some.injEq] at h
            subst h
            have hl := eqLeaves_length he
            obtain ⟨r1, r2, g1, g2, rfl⟩ := eqLeaves_split he
            have lx := hx.length
            have ly := hy.length
            simp only [List.length_append, List.length_drop, Array.length_toList] at hl lx ly
            have hue := planOf_underlying hq
            obtain ⟨hs, h1⟩ := planOf_size hq
            have px := run_partV (P := P) (t := f.type) (n := q.length) (off := off) (xs := xs) (info_of_underlying' hue) hue hs (by omega) h1 w
            have py := run_partV (P := P) (t := f.type) (n := q.length) (off := off) (xs := ys) (info_of_underlying' hue) hue hs (by omega) h1 w
            have heq := plan_eq d D f.type q hq (by omega) _ _ _ _ _ (hx.take q.length) (hy.take q.length) g1 w
            have hx' := hx.drop q.length
            have hy' := hy.drop q.length
            rw [List.drop_drop] at hx' hy'
            have ih := plan_fs d D fs (off + q.length) q2 hq2 (by omega) xs ys _ _ _ (by omega) (by omega) hx' hy' g2 w
            rw [Op.eqFields, if_pos hname, hoff']
            simp only [Sem.run_bind, px, py, heq, Result.andThen_ok]
            cases r1
            · simp
            · simpa using ih
          · cases h
        · cases h
      · cases h
end

theorem does_eqs (R : Rel w0 φ H w) (he : ERel φ e a.tmps) {neg : Bool} {t t' : TypeId} {x y : Operand} {x' y' : AArg} {d : Nat} {p : List Leaf} (ho : o.op = .binOp (if neg then .neq else .eql) t x y t') (hx : carg x = some x') (hy : carg y = some y')
    (hp : planOf P d t = some p) (hd : d ≤ 10000) (hg : aggOf P t = true → P.eqGuardType P.depth t = false) (hnum : ∀ k, P.underlying t ≠ some (.int k)) {b : Bool} (hb : eqV (aggOf P t) p (x'.ev e) (y'.ev e) = some b) : Does P w0 φ w a o (.bool (b != neg)) H := by
  have hx0 := carg_rel he hx
  have hy0 := carg_rel he hy
  have key : ∃ X Y, a.eval x = X ∧ a.eval y = Y ∧ (Op.equalIn 10000 t X Y).run P w = .ok b w ∧ (∀ op, (eqGuard op t x y X Y).run P w = .ok () w) ∧ ((∃ xs ys, X = .agg xs ∧ Y = .agg ys) ∨ (∃ p q, X = .bool p ∧ Y = .bool q) ∨ (∃ p q, X = .string p ∧ Y = .string q ∧ b = (p == q))) := by
    cases hagg : aggOf P t
    · rw [hagg] at hb
      simp only [eqV] at hb
      obtain ⟨hs, h1⟩ := planOf_size hp
      have h1' := h1 hagg
      have hq := plan_eq (φ := φ) d 10000 t p hp hd [a.eval x] [a.eval y] [x'.ev e] [y'.ev e] b (VRels.cons hx0 VRels.nil) (VRels.cons hy0 VRels.nil) hb w
      simp only [mkV, hagg, Bool.false_eq_true, if_false, List.headD_cons] at hq
      match p, h1' with
      | [l], _ =>
        simp only [eqLeaves] at hb
        split at hb
        · rename_i r1 r2 e1 e2
          simp only [Option.some.injEq] at e2 hb
          subst e2
          have hbb : r1 = b := by simpa using hb
          subst hbb
          unfold eqLeaf at e1
          split at e1
          · rename_i k n k' m hxv hyv
            exfalso
            have hu := planOf_underlying hp
            obtain ⟨kd, hk⟩ := Option.isSome_iff_exists.1 hu
            cases d with
            | zero => simp [planOf] at hp
            | succ d =>
              unfold planOf at hp
              unfold aggOf at hagg
              cases kd <;> simp only [hk] at hp hagg <;> first
                | (exact absurd hagg (by decide))
                | (exact hnum _ hk)
                | (split at hp <;> simp at hp)
                | simp at hp
                | simp at hagg
          · rename_i p q hxv hyv _
            rw [hxv] at hx0; rw [hyv] at hy0
            simp only [VRel] at hx0 hy0
            refine ⟨_, _, rfl, rfl, hq, fun op => ?_, .inr (.inl ⟨p, q, hx0, hy0⟩)⟩
            rw [hx0]; cases op <;> rfl
          · rename_i p q hxv hyv _
            rw [hxv] at hx0; rw [hyv] at hy0
            simp only [VRel] at hx0 hy0
            simp only [Option.some.injEq] at e1
            refine ⟨_, _, rfl, rfl, hq, fun op => ?_, .inr (.inr ⟨p, q, hx0, hy0, e1.symm⟩)⟩
            rw [hx0]; cases op <;> rfl
          · cases e1
        · cases hb
    · rw [hagg] at hb
      unfold eqV at hb
      split at hb
      · rename_i xs ys _ hxv hyv
        rw [hxv] at hx0; rw [hyv] at hy0
        simp only [VRel] at hx0 hy0
        obtain ⟨_, vs, hvs, hrx⟩ := hx0
        obtain ⟨_, us, hus, hry⟩ := hy0
        have hq := plan_eq (φ := φ) d 10000 t p hp hd vs us xs ys b hrx hry hb w
        simp only [mkV, hagg, if_true] at hq
        refine ⟨_, _, hvs, hus, hq, fun op => ?_, .inl ⟨_, _, rfl, rfl⟩⟩
        exact run_eqGuard_agg w op t x y _ _ (hg hagg)
      · simp_all
      · cases hb
  obtain ⟨X, Y, hX, hY, hq, hgd, hsh⟩ := key
  refine Does.pure R (u := .bool (b != neg)) ?_ rfl
  cases neg
  · simp only [Bool.bne_false]
    simp only [execOp, ho, hX, hY, if_neg (Bool.false_ne_true)]
    rcases hsh with ⟨xs, ys, rfl, rfl⟩ | ⟨p, q, rfl, rfl⟩ | ⟨p, q, rfl, rfl, hbb⟩
    · simp [hgd, binOp, Op.equal, Op.maxDepth, hq]
    · simp [hgd, binOp, Op.equal, Op.maxDepth, hq]
    · simp [hgd, binOp, Op.stringOp, hbb, beq_toListBytes]
  · simp only [Bool.bne_true]
    simp only [execOp, ho, hX, hY, if_true]
    rcases hsh with ⟨xs, ys, rfl, rfl⟩ | ⟨p, q, rfl, rfl⟩ | ⟨p, q, rfl, rfl, hbb⟩
    · simp [hgd, binOp, Op.equal, Op.maxDepth, hq]
    · simp [hgd, binOp, Op.equal, Op.maxDepth, hq]
    · simp [hgd, binOp, Op.stringOp, hbb, bne, beq_toListBytes]

end
end Go.AM
