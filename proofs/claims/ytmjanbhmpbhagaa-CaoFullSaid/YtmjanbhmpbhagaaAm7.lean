/- WHAT MAKES OR WRITES MEMORY: the program's form does what the abstract machine says. Conditions: those of each theorem. -/
import Derived.Test.YtmjanbhmpbhagaaAm6
set_option linter.unusedVariables false
set_option linter.unusedSimpArgs false
namespace Go.AM
open Go.RowKit

section
variable {P : Program} {w0 w : World} {φ : Map} {H : Heap} {a : Act} {e : Env} {o : Oper}

theorem eq_slice_nil (D : Nat) {t el : TypeId} (hu : P.underlying t = some (.slice el)) (b c : Option Addr) (n m n' m' : Nat) (h : b = none ∨ c = none) (w : World) : (Op.equalIn (D + 1) t (.slice b n m) (.slice c n' m')).run P w = .ok (b.isNone && c.isNone) w := by
  rcases h with rfl | rfl
  · simp only [Op.equalIn, Sem.run_bind, run_underlying hu, Result.andThen_ok, Sem.run_pure, Option.isNone_none, Bool.true_and]
  · cases b <;> simp only [Op.equalIn, Sem.run_bind, run_underlying hu, Result.andThen_ok, Sem.run_pure, Option.isNone_none, Bool.true_and, Option.isNone_some, Bool.false_and]
theorem eq_ptr_nil (D : Nat) {t el : TypeId} (hu : P.underlying t = some (.pointer el)) (b c : Option Addr) (h : b = none ∨ c = none) (w : World) : (Op.equalIn (D + 1) t (.pointer b) (.pointer c)).run P w = .ok (b.isNone && c.isNone) w := by
  rcases h with rfl | rfl
  · simp only [Op.equalIn, Sem.run_bind, run_underlying hu, Result.andThen_ok, Sem.run_pure, Option.isNone_none, Bool.true_and]
  · cases b <;> simp only [Op.equalIn, Sem.run_bind, run_underlying hu, Result.andThen_ok, Sem.run_pure, Option.isNone_none, Bool.true_and, Option.isNone_some, Bool.false_and]
theorem eq_fn_nil1 (D : Nat) {t : TypeId} {ps rs : Array TypeId} {v : Bool} (hu : P.underlying t = some (.func ps rs v)) (w : World) : (Op.equalIn (D + 1) t .nilFunc .nilFunc).run P w = .ok true w := by
  simp only [Op.equalIn, Sem.run_bind, run_underlying hu, Result.andThen_ok, Sem.run_pure]
theorem eq_fn_nil2 (D : Nat) {t : TypeId} {ps rs : Array TypeId} {v : Bool} (hu : P.underlying t = some (.func ps rs v)) (f : Fn) (x y : Array Value) (w : World) : (Op.equalIn (D + 1) t .nilFunc (.func f x y)).run P w = .ok false w := by
  simp only [Op.equalIn, Sem.run_bind, run_underlying hu, Result.andThen_ok, Sem.run_pure]
theorem eq_fn_nil3 (D : Nat) {t : TypeId} {ps rs : Array TypeId} {v : Bool} (hu : P.underlying t = some (.func ps rs v)) (f : Fn) (x y : Array Value) (w : World) : (Op.equalIn (D + 1) t (.func f x y) .nilFunc).run P w = .ok false w := by
  simp only [Op.equalIn, Sem.run_bind, run_underlying hu, Result.andThen_ok, Sem.run_pure]

def Nilish : Value → Prop
  | .slice .. | .pointer _ | .func .. | .nilFunc => True
  | _ => False
theorem nil_binOp {t : TypeId} {X Y : Value} (hX : Nilish X) (hY : Nilish Y) {b : Bool} (h : (Op.equalIn 10000 t X Y).run P w = .ok b w) :
    (binOp .eql t X Y).run P w = .ok (.bool b) w ∧ (binOp .neq t X Y).run P w = .ok (.bool (!b)) w := by
  have e1 : binOp .eql t X Y = (do let r ← Op.equalIn 10000 t X Y; pure (Value.bool r)) := by cases X <;> simp only [Nilish] at hX <;> cases Y <;> simp only [Nilish] at hY <;> rfl
  have e2 : binOp .neq t X Y = (do let r ← Op.equalIn 10000 t X Y; pure (Value.bool (!r))) := by cases X <;> simp only [Nilish] at hX <;> cases Y <;> simp only [Nilish] at hY <;> rfl
  rw [e1, e2, Sem.run_bind, Sem.run_bind, h]
  exact ⟨rfl, rfl⟩

def NilT (P : Program) (t : TypeId) : NilKind → Prop
  | .slice => ∃ el, P.underlying t = some (.slice el)
  | .ptr => ∃ el, P.underlying t = some (.pointer el)
  | .fn => ∃ ps rs v, P.underlying t = some (.func ps rs v)

theorem does_nileq (R : Rel w0 φ H w) (he : ERel φ e a.tmps) {neg : Bool} {t t' : TypeId} {x y : Operand} {x' y' : AArg} {k : NilKind} (ho : o.op = .binOp (if neg then .neq else .eql) t x y t') (hx : carg x = some x') (hy : carg y = some y')
    (hk : NilT P t k) {b : Bool} (hb : nileqV H k (x'.ev e) (y'.ev e) = some b) : Does P w0 φ w a o (.bool (b != neg)) H := by
  have hx0 := carg_rel he hx
  have hy0 := carg_rel he hy
  have key : (∀ op, (eqGuard op t x y (a.eval x) (a.eval y)).run P w = .ok () w) ∧ Nilish (a.eval x) ∧ Nilish (a.eval y) ∧ (Op.equalIn 10000 t (a.eval x) (a.eval y)).run P w = .ok b w := by
    unfold nileqV at hb
    split at hb
    · rename_i hxv hyv
      simp only [Option.some.injEq] at hb; subst hb
      rw [hxv] at hx0; rw [hyv] at hy0
      simp only [VRel] at hx0 hy0
      obtain ⟨el, hu⟩ := hk
      rw [hx0, hy0]
      exact ⟨fun op => by cases op <;> rfl, trivial, trivial, eq_slice_nil 9999 hu _ _ _ _ _ _ (.inl rfl) w⟩
    · rename_i id ver of l m hxv hyv
      split at hb
      · rename_i hl
        simp only [Option.some.injEq] at hb; subst hb
        rw [hxv] at hx0; rw [hyv] at hy0
        simp only [VRel] at hx0
        obtain ⟨L, _, _, cap, p, hp, _⟩ := sl_rel R hy0 hl
        obtain ⟨el, hu⟩ := hk
        rw [hx0, hp]
        exact ⟨fun op => by cases op <;> rfl, trivial, trivial, eq_slice_nil 9999 hu _ _ _ _ _ _ (.inl rfl) w⟩
      · cases hb
    · rename_i id ver of l m hxv hyv
      split at hb
      · rename_i hl
        simp only [Option.some.injEq] at hb; subst hb
        rw [hxv] at hx0; rw [hyv] at hy0
        simp only [VRel] at hy0
        obtain ⟨L, _, _, cap, p, hp, _⟩ := sl_rel R hx0 hl
        obtain ⟨el, hu⟩ := hk
        rw [hy0, hp]
        exact ⟨fun op => by cases op <;> rfl, trivial, trivial, eq_slice_nil 9999 hu _ _ _ _ _ _ (.inr rfl) w⟩
      · cases hb
    · rename_i hxv hyv
      simp only [Option.some.injEq] at hb; subst hb
      rw [hxv] at hx0; rw [hyv] at hy0
      simp only [VRel] at hx0 hy0
      obtain ⟨el, hu⟩ := hk
      rw [hx0, hy0]
      exact ⟨fun op => by cases op <;> rfl, trivial, trivial, eq_ptr_nil 9999 hu _ _ (.inl rfl) w⟩
    · rename_i id ver of hxv hyv
      split at hb
      · rename_i hl
        simp only [Option.some.injEq] at hb; subst hb
        rw [hxv] at hx0; rw [hyv] at hy0
        simp only [VRel] at hx0
        obtain ⟨L, _, _, hp⟩ := ptr_rel R hy0 hl
        obtain ⟨el, hu⟩ := hk
        rw [hx0, hp]
        exact ⟨fun op => by cases op <;> rfl, trivial, trivial, eq_ptr_nil 9999 hu _ _ (.inl rfl) w⟩
      · cases hb
    · rename_i id ver of hxv hyv
      split at hb
      · rename_i hl
        simp only [Option.some.injEq] at hb; subst hb
        rw [hxv] at hx0; rw [hyv] at hy0
        simp only [VRel] at hy0
        obtain ⟨L, _, _, hp⟩ := ptr_rel R hx0 hl
        obtain ⟨el, hu⟩ := hk
        rw [hy0, hp]
        exact ⟨fun op => by cases op <;> rfl, trivial, trivial, eq_ptr_nil 9999 hu _ _ (.inr rfl) w⟩
      · cases hb
    · rename_i hxv hyv
      simp only [Option.some.injEq] at hb; subst hb
      rw [hxv] at hx0; rw [hyv] at hy0
      simp only [VRel] at hx0 hy0
      obtain ⟨ps, rs, v, hu⟩ := hk
      rw [hx0, hy0]
      exact ⟨fun op => by cases op <;> rfl, trivial, trivial, eq_fn_nil1 9999 hu w⟩
    · rename_i f cs hxv hyv
      simp only [Option.some.injEq] at hb; subst hb
      rw [hxv] at hx0; rw [hyv] at hy0
      simp only [VRel] at hx0 hy0
      obtain ⟨vs, hvs, _⟩ := hy0
      obtain ⟨ps, rs, v, hu⟩ := hk
      rw [hx0, hvs]
      exact ⟨fun op => by cases op <;> rfl, trivial, trivial, eq_fn_nil2 9999 hu _ _ _ w⟩
    · rename_i f cs hxv hyv
      simp only [Option.some.injEq] at hb; subst hb
      rw [hxv] at hx0; rw [hyv] at hy0
      simp only [VRel] at hx0 hy0
      obtain ⟨vs, hvs, _⟩ := hx0
      obtain ⟨ps, rs, v, hu⟩ := hk
      rw [hy0, hvs]
      exact ⟨fun op => by cases op <;> rfl, trivial, trivial, eq_fn_nil3 9999 hu _ _ _ w⟩
    · cases hb
  obtain ⟨hg, n1, n2, hq⟩ := key
  obtain ⟨h1, h2⟩ := nil_binOp n1 n2 hq
  refine Does.pure R (u := .bool (b != neg)) ?_ rfl
  cases neg
  · simp only [Bool.bne_false]
    simp [execOp, ho, hg, h1]
  · simp only [Bool.bne_true]
    simp [execOp, ho, hg, h2]

/-! ### slicing -/
theorem sliceBnd_rel {x : AV} {X : Value} (hx : VRel φ x X) {y m : Nat} (h : sliceBnd x y = some m) {z : Nat} (hz : y ≤ z) (code : BoundsCode) (w : World) : m ≤ y ∧ (Instr.sliceBound X z code).run P w = .ok m w := by
  unfold sliceBnd at h
  split at h
  · rename_i k i
    simp only [VRel] at hx
    subst hx
    split at h
    · rename_i hi
      simp only [Option.some.injEq] at h
      subst h
      exact ⟨by omega, run_sliceBound (P := P) w k i z code hi.1 (by omega)⟩
    · cases h
  · cases h

theorem copt_rel (he : ERel φ e a.tmps) {x : Option Operand} {y : Option AArg} (h : copt x = some y) : (x = none ∧ y = none) ∨ ∃ p q, x = some p ∧ y = some q ∧ VRel φ (q.ev e) (a.eval p) := by
  unfold copt at h
  split at h
  · simp only [Option.some.injEq] at h
    exact .inl ⟨rfl, h.symm⟩
  · rename_i p
    rw [Option.map_eq_some_iff] at h
    obtain ⟨q, hq, rfl⟩ := h
    exact .inr ⟨p, q, rfl, rfl, carg_rel he hq⟩

/-- The bounds of a slice expression over 'len' of 'cap'. -/
theorem bounds_rel (he : ERel φ e a.tmps) {lo hi mx : Option Operand} {lo' hi' mx' : Option AArg} (hlo : copt lo = some lo') (hhi : copt hi = some hi') (hmx : copt mx = some mx') {len cap : Nat} (hc : len ≤ cap) {m : Option Nat} {h l : Nat}
    (e1 : (match mx'.map (·.ev e) with | some m => (sliceBnd m len).map some | none => some none) = some m)
    (e2 : (match hi'.map (·.ev e) with | some h => sliceBnd h (m.getD len) | none => if m.isSome then none else some len) = some h)
    (e3 : (match lo'.map (·.ev e) with | some l => sliceBnd l h | none => some 0) = some l) (w : World) :
    l ≤ h ∧ h ≤ m.getD len ∧ m.getD len ≤ len ∧ (Instr.sliceBounds true len cap (lo.map a.eval) (hi.map a.eval) (mx.map a.eval)).run P w = .ok (l, h, m.getD cap) w := by
  rcases copt_rel he hmx with ⟨rfl, rfl⟩ | ⟨pm, qm, rfl, rfl, rm⟩
  · simp only [Option.map_none, Option.some.injEq] at e1
    subst e1
    rcases copt_rel he hhi with ⟨rfl, rfl⟩ | ⟨ph, qh, rfl, rfl, rh⟩
    · simp only [Option.map_none, Option.isSome_none, Bool.false_eq_true, if_false, Option.some.injEq] at e2
      subst e2
      rcases copt_rel he hlo with ⟨rfl, rfl⟩ | ⟨pl, ql, rfl, rfl, rl⟩
      · simp only [Option.map_none, Option.some.injEq] at e3
        subst e3
        refine ⟨by omega, by simp, by simp, ?_⟩
        simp [Instr.sliceBounds]
      · simp only [Option.map_some] at e3
        obtain ⟨g1, g2⟩ := sliceBnd_rel (P := P) rl e3 (Nat.le_refl _) .sliceB w
        refine ⟨g1, by simp, by simp, ?_⟩
        simp [Instr.sliceBounds, g2]
    · simp only [Option.map_some, Option.getD_none] at e2
      obtain ⟨f1, f2⟩ := sliceBnd_rel (P := P) rh e2 hc .sliceAcap w
      rcases copt_rel he hlo with ⟨rfl, rfl⟩ | ⟨pl, ql, rfl, rfl, rl⟩
      · simp only [Option.map_none, Option.some.injEq] at e3
        subst e3
        refine ⟨by omega, by simpa using f1, by simp, ?_⟩
        simp [Instr.sliceBounds, f2]
      · simp only [Option.map_some] at e3
        obtain ⟨g1, g2⟩ := sliceBnd_rel (P := P) rl e3 (Nat.le_refl _) .sliceB w
        refine ⟨g1, by simpa using f1, by simp, ?_⟩
        simp [Instr.sliceBounds, f2, g2]
  · simp only [Option.map_some, Option.map_eq_some_iff] at e1
    obtain ⟨m', hm', rfl⟩ := e1
    obtain ⟨k1, k2⟩ := sliceBnd_rel (P := P) rm hm' hc .slice3Acap w
    rcases copt_rel he hhi with ⟨rfl, rfl⟩ | ⟨ph, qh, rfl, rfl, rh⟩
    · simp at e2
    · simp only [Option.map_some, Option.getD_some] at e2
      obtain ⟨f1, f2⟩ := sliceBnd_rel (P := P) rh e2 (Nat.le_refl _) .slice3B w
      rcases copt_rel he hlo with ⟨rfl, rfl⟩ | ⟨pl, ql, rfl, rfl, rl⟩
      · simp only [Option.map_none, Option.some.injEq] at e3
        subst e3
        refine ⟨by omega, by simpa using f1, by simpa using k1, ?_⟩
        simp [Instr.sliceBounds, k2, f2]
      · simp only [Option.map_some] at e3
        obtain ⟨g1, g2⟩ := sliceBnd_rel (P := P) rl e3 (Nat.le_refl _) .slice3C w
        refine ⟨g1, by simpa using f1, by simpa using k1, ?_⟩
        simp [Instr.sliceBounds, k2, f2, g2]

theorem does_slice (R : Rel w0 φ H w) (he : ERel φ e a.tmps) {t el : TypeId} {i : TypeInfo} {x : Operand} {x' : AArg} {lo hi mx : Option Operand} {lo' hi' mx' : Option AArg} (ho : o.op = .slice t x lo hi mx) (ht : P.underlying t = some (.slice el)) (hin : P.info? el = some i) (hx : carg x = some x')
    (hlo : copt lo = some lo') (hhi : copt hi = some hi') (hmx : copt mx = some mx') {v : AV} (hv : sliceV H i.size (x'.ev e) (lo'.map (·.ev e)) (hi'.map (·.ev e)) (mx'.map (·.ev e)) = some v) : Does P w0 φ w a o v H := by
  have hx0 := carg_rel he hx
  have hs := run_sizeOf' (info_isSome_of hin) w
  have hc : P.cellsOf el = i.size := by simp [Program.cellsOf, hin]
  rw [hc] at hs
  unfold sliceV at hv
  split at hv
  · rename_i hxv
    rw [hxv] at hx0
    simp only [VRel] at hx0
    simp only [Option.bind_eq_some_iff] at hv
    obtain ⟨m0, e1, h0, e2, l0, e3, hv⟩ := hv
    simp only [Option.some.injEq] at hv
    subst hv
    have key : ∃ m : Option Nat, (match mx'.map (·.ev e) with | some m => (sliceBnd m 0).map some | none => some none) = some m ∧ (match hi'.map (·.ev e) with | some h => sliceBnd h (m.getD 0) | none => if m.isSome then none else some 0) = some h0 := by
      rcases copt_rel he hmx with ⟨rfl, rfl⟩ | ⟨pm, qm, rfl, rfl, rm⟩
      · exact ⟨none, rfl, by cases hi' <;> simpa using e2⟩
      · simp only [Option.map_some] at e1 e2 ⊢
        refine ⟨some m0, by rw [e1]; rfl, ?_⟩
        have hm0 := (sliceBnd_rel (P := P) rm e1 (Nat.le_refl _) .index w).1
        obtain rfl : m0 = 0 := by omega
        cases hi' <;> first | (simp at e2; done) | simpa using e2
    obtain ⟨m, k1, k2⟩ := key
    have hh0 : h0 = 0 := by
      obtain ⟨g1, g2, g3, _⟩ := bounds_rel (P := P) he (lo := none) (lo' := none) rfl hhi hmx (Nat.le_refl 0) k1 k2 rfl w
      omega
    subst hh0
    obtain ⟨g1, g2, g3, g4⟩ := bounds_rel (P := P) he hlo hhi hmx (Nat.le_refl 0) k1 k2 e3 w
    obtain rfl : l0 = 0 := by omega
    have hm0 : m.getD 0 = 0 := by omega
    refine Does.pure R (u := .slice none 0 0) ?_ rfl
    simp [execOp, ho, hx0, Instr.sliceAt, run_underlying ht, Instr.slice, g4, hs, hm0]
  · rename_i id ver off len lim hxv
    rw [hxv] at hx0
    split at hv
    · rename_i hok
      simp only [Option.bind_eq_some_iff] at hv
      obtain ⟨m, e1, h, e2, l, e3, hv⟩ := hv
      simp only [Option.some.injEq] at hv
      subst hv
      have hlive : (H.cells id ver).isSome = true := by
        unfold Heap.slOk at hok
        unfold Heap.cells
        cases hB : H[id]? with
        | none => simp [hB] at hok
        | some B => cases B <;> simp_all [Blk.ver]
      obtain ⟨L, hL, hvr, cap, p, hp, hcap, hpo, hfit, hlim⟩ := sl_rel R hx0 hlive
      have hLsz : L.rw = true → L.sz = i.size := by
        intro hrw
        unfold Heap.slOk at hok
        cases hB : H[id]? with
        | none => simp [hB] at hok
        | some B =>
          obtain ⟨L', hL', hrel⟩ := R.blk id B hB
          rw [hL] at hL'
          simp only [Option.some.injEq] at hL'
          subst hL'
          cases B with
          | ro c => simp only [BRel] at hrel; rw [hrel.1] at hrw; cases hrw
          | rw v s c => simp only [BRel] at hrel; simp [hB] at hok; rw [hrel.2.2.1]; exact hok.2
      obtain ⟨g1, g2, g3, g4⟩ := bounds_rel (P := P) he hlo hhi hmx hcap e1 e2 e3 w
      have hmc : m.getD cap ≤ cap ∧ l ≤ m.getD cap ∧ h ≤ m.getD cap := by
        cases m <;> simp at g2 g3 ⊢ <;> omega
      refine Does.pure R (u := .slice (some (if m.getD cap = l then ⟨L.b, p, none⟩ else ⟨L.b, p + l * i.size, none⟩)) (h - l) (m.getD cap - l)) ?_ ?_
      · simp only [execOp, ho, hp, Instr.sliceAt, run_underlying ht, Instr.slice, Sem.run_bind, Result.andThen_ok, g4, hs, Sem.run_pure]
        by_cases hml : m.getD cap = l
        · simp [hml]
        · simp [hml, add_plain]
      · have e0 : (if m.getD cap = l then (⟨L.b, p, none⟩ : Addr) else ⟨L.b, p + l * i.size, none⟩) = ⟨L.b, if m.getD cap = l then p else p + l * i.size, none⟩ := by split <;> rfl
        rw [e0]
        refine sl_mk hL hvr (by omega) (fun h0 => ?_) (fun hrw => ?_) (fun hl => ?_)
        · rw [if_neg (by omega), hpo (by omega)]
          omega
        · have h1 := hfit hrw
          rw [hLsz hrw] at h1 ⊢
          have h2 : (m.getD cap - l) * i.size + l * i.size ≤ cap * i.size := by
            rw [← Nat.add_mul]
            exact Nat.mul_le_mul_right _ (by omega)
          omega
        · cases m with
          | none => simp at hl ⊢; have := hlim hl.1; omega
          | some m => simp at hl ⊢; omega
    · cases hv
  · cases hv

end
end Go.AM
