/- PlanOne is proved: whatever comes in, the Go function pigeonholelaw14.PlanOne returns true and leaves its arguments as they were. Conditions: none. -/
import Derived.Test.YtmjanbhmpbhagaaRows
import Derived.Test.YtmjanbhmpbhagaaLcY
import Derived.Test.YtmjanbhmpbhagaaLcR
import Derived.Test.YtmjanbhmpbhagaaLbZ
import Derived.WalkKit
import Derived.ProofKit
import Derived.OpenShut
set_option linter.unusedVariables false
set_option linter.unusedSimpArgs false
namespace Go.Proofs.Ytmjanbhmpbhagaa
open Go.ChangeShapes Go.WideShapes Go.ChangeAt Go.RowKit
namespace One
theorem own : ownKnob Try.prog.godebug = none := by kernel_rfl

set_option maxRecDepth 100000 in
theorem lifted (os : Os) (started : os.Started) (H : Type) (enc : TypeId × Value → H) :
    ReturnsInHanded {} Try.checked os 3 .any (Rows.planOneSpec.pre6 enc Try.prog Try.f3 Rows.planOneRow.domain false) (Rows.planOneSpec.post enc Try.prog Try.f3 false true false false) := by
  refine returnsInHanded_of_change (C := Try.checked) own started (by kernel_rfl) Try.func3
    (ChangeSpec.witness6 (enc := enc) (C := Try.checked) false ⟨#[], #[.int .i64 0, .slice none 0 0, .agg #[.int .i64 0, .int .u64 0, .int .u64 0, .int .u64 0, .int .u64 0, .int .i64 0, .int .i64 0]], []⟩ 8 (by kernel_rfl) (by kernel_rfl) (by kernel_rfl) (by kernel_rfl)) ?_
  intro W base args ds gs before hval0 hW hcnd _
  have hval : ∀ (j : Nat) t v, Try.f3.params[j]? = some t → args[j]? = some v → Value.okWide Try.prog W .any base t v := hval0
  have hW' := hW
  obtain ⟨p, q, hA0, hV, rfl, hfz, hnd⟩ := hW
  have hA : DataW.TrodAll enc Try.prog W 0 (fun _ => true) true Try.f3.params.toList args.toList ds p := hA0
  rw [Try.params3] at hA hval
  obtain ⟨v0, vs0, d0, ds0, p0, q0, hargs, rfl, rfl, h0, r0⟩ := trodAll_cons hA
  obtain ⟨v1, vs1, d1, ds1, p1, q1, rfl, rfl, rfl, h1, r1⟩ := trodAll_cons r0
  obtain ⟨v2, vs2, d2, ds2, p2, q2, rfl, rfl, rfl, h2, r2⟩ := trodAll_cons r1
  obtain ⟨rfl, rfl, rfl⟩ := trodAll_nil r2
  obtain rfl : args = #[v0, v1, v2] := by cases args; simp_all
  obtain ⟨rfl, rfl⟩ := trodVars_none hV
  clear hA0 hval0
  simp only [List.append_nil] at hW'
  have hlt0 : ∀ x ∈ p0, x.block < W.heap.size := fun x hx => by simpa using hW'.lt x (by simp [hx])
  have hlt1 : ∀ x ∈ p1, x.block < W.heap.size := fun x hx => by simpa using hW'.lt x (by simp [hx])
  have hlt2 : ∀ x ∈ p2, x.block < W.heap.size := fun x hx => by simpa using hW'.lt x (by simp [hx])
  obtain ⟨a0, e0, _, _, w0⟩ := open_int Try.underlying3 (hval 0 3 v0 rfl rfl) h0
  obtain ⟨l1, φ, H0, av1, hR, hv1, hs1⟩ := Go.AM.open_slice Go.AM.Sl.c (n := 8) (ks := [.b, .i .u64, .i .u64, .i .u64, .i .u64, .i .i64, .i .i64]) Try.underlying22 (by kernel_rfl) (by kernel_rfl) Go.AM.read_sl (hval 1 22 v1 rfl rfl) h1
  have hsh1 := Go.AM.Lst.of hs1
  obtain ⟨c2, e2, k2⟩ := Go.AM.open_flat (n := 8) (ks := [.i .i64, .i .u64, .i .u64, .i .u64, .i .u64, .i .i64, .i .i64]) Try.underlying31 (by kernel_rfl) (hval 2 31 v2 rfl rfl) h2
  obtain ⟨a2, o2, y2⟩ := Go.AM.read_stp c2 k2
  have hcall : Calls Try.prog 3 #[v0, v1, v2] W fun e w' => e = .returned (.bool true) ∧ Below W.heap.size W w' := C.law_calls (f := 3) (φ := φ) (H0 := H0) (vargs := [v0, v1, v2]) (C.planOne_true (hook := C.noHook) (lim := 0) (H := H0) a0 av1 l1 a2 hsh1) (hR) (.mk (by rw [e0]; exact Go.AM.VRel.mkInt _ _) (.mk hv1 (.mk (by rw [e2]; exact Go.AM.VRel.mkAgg o2 (y2 _)) Go.AM.VRels.mk0)))
  refine hcall.mono fun e W' ⟨he, hg⟩ => ?_
  subst he
  refine ⟨_, rfl, _, _, _, [], (p0 ++ (p1 ++ (p2 ++ []))), [], hW', ?_, ?_, rfl, hg.frame _, fun h => by cases h⟩
  · exact trodAll_cons_mk (shut_bool Try.underlying4 _) trodAll_mk0
  · exact (trodAll_cons_mk (Below.trod C.laidOut (by kernel_rfl) (of_decide_eq_true (by kernel_rfl)) h0 hg hlt0) (trodAll_cons_mk (Below.trod C.laidOut (by kernel_rfl) (of_decide_eq_true (by kernel_rfl)) h1 hg hlt1) (trodAll_cons_mk (Below.trod C.laidOut (by kernel_rfl) (of_decide_eq_true (by kernel_rfl)) h2 hg hlt2) trodAll_mk0)))

theorem over : Rows.planOneRow.holds Try.pinned (OpenSpec.ofChange Rows.planOneSpec) :=
  OpenClaim.holds_of_wide 3 Try.f3 rfl rfl rfl rfl rfl rfl rfl ⟨rfl, rfl, rfl, rfl, rfl⟩ rfl rfl rfl rfl rfl (by kernel_rfl) Try.func3 (by kernel_rfl)
    (of_decide_eq_true (by kernel_rfl)) (by unfold Func.isWrapper; first | (rw [if_pos (by decide +kernel)]; kernel_rfl) | (rw [if_neg (by decide +kernel)]; exact ⟨rfl, rfl⟩))
    (fun os started H enc _ => lifted os started H enc)
end One
/-- The statement. -/
theorem planOne_holds : Rows.PlanOneSaid := One.over
#print axioms planOne_holds
end Go.Proofs.Ytmjanbhmpbhagaa

