/- MergeOrders is proved: whatever comes in, the Go function pigeonholelaw10.MergeOrders returns true and leaves its arguments as they were. Conditions: none. -/
import Derived.Test.YtafonoekobkcdaaRows
import Derived.Test.YtafonoekobkcdaaLeI
import Derived.Test.YtafonoekobkcdaaLcR
import Derived.Test.YtafonoekobkcdaaLbZ
import Derived.WalkKit
import Derived.ProofKit
import Derived.OpenShut
set_option linter.unusedVariables false
set_option linter.unusedSimpArgs false
namespace Go.Proofs.Ytafonoekobkcdaa
open Go.ChangeShapes Go.WideShapes Go.ChangeAt Go.RowKit
namespace Mor
theorem own : ownKnob Try.prog.godebug = none := by kernel_rfl

set_option maxRecDepth 100000 in
theorem lifted (os : Os) (started : os.Started) (H : Type) (enc : TypeId × Value → H) :
    ReturnsInHanded {} Try.checked os 6 .any (Rows.mergeOrdersSpec.pre6 enc Try.prog Try.f6 Rows.mergeOrdersRow.domain false) (Rows.mergeOrdersSpec.post enc Try.prog Try.f6 false true false false) := by
  refine returnsInHanded_of_change (C := Try.checked) own started (by kernel_rfl) Try.func6
    (ChangeSpec.witness6 (enc := enc) (C := Try.checked) false ⟨#[], #[.slice none 0 0], []⟩ 8 (by kernel_rfl) (by kernel_rfl) (by kernel_rfl) (by kernel_rfl)) ?_
  intro W base args ds gs before hval0 hW hcnd _
  have hval : ∀ (j : Nat) t v, Try.f6.params[j]? = some t → args[j]? = some v → Value.okWide Try.prog W .any base t v := hval0
  have hW' := hW
  obtain ⟨p, q, hA0, hV, rfl, hfz, hnd⟩ := hW
  have hA : DataW.TrodAll enc Try.prog W 0 (fun _ => true) true Try.f6.params.toList args.toList ds p := hA0
  rw [Try.params6] at hA hval
  obtain ⟨v0, vs0, d0, ds0, p0, q0, hargs, rfl, rfl, h0, r0⟩ := trodAll_cons hA
  obtain ⟨rfl, rfl, rfl⟩ := trodAll_nil r0
  obtain rfl : args = #[v0] := by cases args; simp_all
  obtain ⟨rfl, rfl⟩ := trodVars_none hV
  clear hA0 hval0
  simp only [List.append_nil] at hW'
  have hlt0 : ∀ x ∈ p0, x.block < W.heap.size := fun x hx => by simpa using hW'.lt x (by simp [hx])
  obtain ⟨l0, φ, H0, av0, hR, hv0, hs0⟩ := Go.AM.open_slice Go.AM.En.c (n := 8) (ks := [.i .u64, .i .u64, .i .u64, .i .u64, .i .i64, .i .i64]) Try.underlying22 (by kernel_rfl) (by kernel_rfl) Go.AM.read_en (hval 0 22 v0 rfl rfl) h0
  have hsh0 := Go.AM.Lst.of hs0
  have hcall : Calls Try.prog 6 #[v0] W fun e w' => e = .returned (.bool true) ∧ Below W.heap.size W w' := C.law_calls (f := 6) (φ := φ) (H0 := H0) (vargs := [v0]) (C.mergeOrders_true (hook := C.noHook) (lim := 0) (H := H0) av0 l0 hsh0) (hR) (.mk hv0 Go.AM.VRels.mk0)
  refine hcall.mono fun e W' ⟨he, hg⟩ => ?_
  subst he
  refine ⟨_, rfl, _, _, _, [], (p0 ++ []), [], hW', ?_, ?_, rfl, hg.frame _, fun h => by cases h⟩
  · exact trodAll_cons_mk (shut_bool Try.underlying4 _) trodAll_mk0
  · exact (trodAll_cons_mk (Below.trod C.laidOut (by kernel_rfl) (of_decide_eq_true (by kernel_rfl)) h0 hg hlt0) trodAll_mk0)

theorem over : Rows.mergeOrdersRow.holds Try.pinned (OpenSpec.ofChange Rows.mergeOrdersSpec) :=
  OpenClaim.holds_of_wide 6 Try.f6 rfl rfl rfl rfl rfl rfl rfl ⟨rfl, rfl, rfl, rfl, rfl⟩ rfl rfl rfl rfl rfl (by kernel_rfl) Try.func6 (by kernel_rfl)
    (of_decide_eq_true (by kernel_rfl)) (by unfold Func.isWrapper; first | (rw [if_pos (by decide +kernel)]; kernel_rfl) | (rw [if_neg (by decide +kernel)]; exact ⟨rfl, rfl⟩))
    (fun os started H enc _ => lifted os started H enc)
end Mor
/-- The statement. -/
theorem mergeOrders_holds : Rows.MergeOrdersSaid := Mor.over
#print axioms mergeOrders_holds
end Go.Proofs.Ytafonoekobkcdaa

