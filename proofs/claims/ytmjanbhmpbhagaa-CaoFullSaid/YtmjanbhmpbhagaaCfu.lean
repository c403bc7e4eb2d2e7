/- CaoFull is proved: whatever comes in, the Go function pigeonholelaw13.CaoFull returns true and leaves its arguments as they were. Conditions: none. -/
import Derived.Test.YtmjanbhmpbhagaaRows
import Derived.Test.YtmjanbhmpbhagaaLdF
import Derived.Test.YtmjanbhmpbhagaaLcR
import Derived.Test.YtmjanbhmpbhagaaLbJ
import Derived.WalkKit
import Derived.ProofKit
import Derived.OpenShut
set_option linter.unusedVariables false
set_option linter.unusedSimpArgs false
namespace Go.Proofs.Ytmjanbhmpbhagaa
open Go.ChangeShapes Go.WideShapes Go.ChangeAt Go.RowKit
namespace Cfu
theorem own : ownKnob Try.prog.godebug = none := by kernel_rfl

set_option maxRecDepth 100000 in
theorem lifted (os : Os) (started : os.Started) (H : Type) (enc : TypeId × Value → H) :
    ReturnsInHanded {} Try.checked os 9 .any (Rows.caoFullSpec.pre6 enc Try.prog Try.f9 Rows.caoFullRow.domain false) (Rows.caoFullSpec.post enc Try.prog Try.f9 false true false false) := by
  refine returnsInHanded_of_change (C := Try.checked) own started (by kernel_rfl) Try.func9
    (ChangeSpec.witness6 (enc := enc) (C := Try.checked) false ⟨#[], #[.slice none 0 0, .agg #[.int .u64 0, .int .u64 0, .int .u64 0, .int .u64 0, .int .i64 0, .int .i64 0]], []⟩ 8 (by kernel_rfl) (by kernel_rfl) (by kernel_rfl) (by kernel_rfl)) ?_
  intro W base args ds gs before hval0 hW hcnd _
  have hval : ∀ (j : Nat) t v, Try.f9.params[j]? = some t → args[j]? = some v → Value.okWide Try.prog W .any base t v := hval0
  have hW' := hW
  obtain ⟨p, q, hA0, hV, rfl, hfz, hnd⟩ := hW
  have hA : DataW.TrodAll enc Try.prog W 0 (fun _ => true) true Try.f9.params.toList args.toList ds p := hA0
  rw [Try.params9] at hA hval
  obtain ⟨v0, vs0, d0, ds0, p0, q0, hargs, rfl, rfl, h0, r0⟩ := trodAll_cons hA
  obtain ⟨v1, vs1, d1, ds1, p1, q1, rfl, rfl, rfl, h1, r1⟩ := trodAll_cons r0
  obtain ⟨rfl, rfl, rfl⟩ := trodAll_nil r1
  obtain rfl : args = #[v0, v1] := by cases args; simp_all
  obtain ⟨rfl, rfl⟩ := trodVars_none hV
  clear hA0 hval0
  simp only [List.append_nil] at hW'
  have hlt0 : ∀ x ∈ p0, x.block < W.heap.size := fun x hx => by simpa using hW'.lt x (by simp [hx])
  have hlt1 : ∀ x ∈ p1, x.block < W.heap.size := fun x hx => by simpa using hW'.lt x (by simp [hx])
  obtain ⟨l0, φ, H0, av0, hR, hv0, hs0⟩ := Go.AM.open_slice Go.AM.Sl.c (n := 8) (ks := [.b, .i .u64, .i .u64, .i .u64, .i .u64, .i .i64, .i .i64]) Try.underlying22 (by kernel_rfl) (by kernel_rfl) Go.AM.read_sl (hval 0 22 v0 rfl rfl) h0
  have hsh0 := Go.AM.Lst.of hs0
  obtain ⟨c1, e1, k1⟩ := Go.AM.open_flat (n := 8) (ks := [.i .u64, .i .u64, .i .u64, .i .u64, .i .i64, .i .i64]) Try.underlying29 (by kernel_rfl) (hval 1 29 v1 rfl rfl) h1
  obtain ⟨a1, o1, y1⟩ := Go.AM.read_en c1 k1
  have hcall : Calls Try.prog 9 #[v0, v1] W fun e w' => e = .returned (.bool true) ∧ Below W.heap.size W w' := C.law_callsV (f := 9) (af := C.f9) (φ := φ) (H0 := H0) (vargs := [v0, v1]) (C.PF C.t9) (by decide) (by rfl) (C.caoFull_true (hook := C.noHook) (H := H0) av0 l0 a1 hsh0) (hR) (.mk hv0 (.mk (by rw [e1]; exact Go.AM.VRel.mkAgg o1 (y1 _)) Go.AM.VRels.mk0))
  refine hcall.mono fun e W' ⟨he, hg⟩ => ?_
  subst he
  refine ⟨_, rfl, _, _, _, [], (p0 ++ (p1 ++ [])), [], hW', ?_, ?_, rfl, hg.frame _, fun h => by cases h⟩
  · exact trodAll_cons_mk (shut_bool Try.underlying4 _) trodAll_mk0
  · exact (trodAll_cons_mk (Below.trod C.laidOut (by kernel_rfl) (of_decide_eq_true (by kernel_rfl)) h0 hg hlt0) (trodAll_cons_mk (Below.trod C.laidOut (by kernel_rfl) (of_decide_eq_true (by kernel_rfl)) h1 hg hlt1) trodAll_mk0))

theorem over : Rows.caoFullRow.holds Try.pinned (OpenSpec.ofChange Rows.caoFullSpec) :=
  OpenClaim.holds_of_wide 9 Try.f9 rfl rfl rfl rfl rfl rfl rfl ⟨rfl, rfl, rfl, rfl, rfl⟩ rfl rfl rfl rfl rfl (by kernel_rfl) Try.func9 (by kernel_rfl)
    (of_decide_eq_true (by kernel_rfl)) (by unfold Func.isWrapper; first | (rw [if_pos (by decide +kernel)]; kernel_rfl) | (rw [if_neg (by decide +kernel)]; exact ⟨rfl, rfl⟩))
    (fun os started H enc _ => lifted os started H enc)
end Cfu
/-- The statement. -/
theorem caoFull_holds : Rows.CaoFullSaid := Cfu.over
#print axioms caoFull_holds
end Go.Proofs.Ytmjanbhmpbhagaa

