/- TrieFinds is proved: whatever comes in, the Go function pigeonholelaw07.TrieFinds returns true and leaves its arguments as they were. Conditions: none. -/
import Derived.Test.YtdapdfaejemgdaaRows
import Derived.Test.YtdapdfaejemgdaaLbH
import Derived.Test.YtdapdfaejemgdaaLbZ
import Derived.WalkKit
import Derived.ProofKit
import Derived.OpenShut
set_option linter.unusedVariables false
set_option linter.unusedSimpArgs false
namespace Go.Proofs.Ytdapdfaejemgdaa
open Go.ChangeShapes Go.WideShapes Go.ChangeAt Go.RowKit
namespace Finds
theorem own : ownKnob Try.prog.godebug = none := by kernel_rfl

set_option maxRecDepth 100000 in
theorem lifted (os : Os) (started : os.Started) (H : Type) (enc : TypeId × Value → H) :
    ReturnsInHanded {} Try.checked os 4 .any (Rows.trieFindsSpec.pre6 enc Try.prog Try.f4 Rows.trieFindsRow.domain false) (Rows.trieFindsSpec.post enc Try.prog Try.f4 false true false false) := by
  refine returnsInHanded_of_change (C := Try.checked) own started (by kernel_rfl) Try.func4
    (ChangeSpec.witness6 (enc := enc) (C := Try.checked) false ⟨#[], #[.int .i64 0, .slice none 0 0, .agg #[.int .u64 0, .int .u64 0, .int .i64 0], .agg #[.int .u64 0, .int .u64 0]], []⟩ 8 (by kernel_rfl) (by kernel_rfl) (by kernel_rfl) (by kernel_rfl)) ?_
  intro W base args ds gs before hval0 hW hcnd _
  have hval : ∀ (j : Nat) t v, Try.f4.params[j]? = some t → args[j]? = some v → Value.okWide Try.prog W .any base t v := hval0
  have hW' := hW
  obtain ⟨p, q, hA0, hV, rfl, hfz, hnd⟩ := hW
  have hA : DataW.TrodAll enc Try.prog W 0 (fun _ => true) true Try.f4.params.toList args.toList ds p := hA0
  rw [Try.params4] at hA hval
  obtain ⟨v0, vs0, d0, ds0, p0, q0, hargs, rfl, rfl, h0, r0⟩ := trodAll_cons hA
  obtain ⟨v1, vs1, d1, ds1, p1, q1, rfl, rfl, rfl, h1, r1⟩ := trodAll_cons r0
  obtain ⟨v2, vs2, d2, ds2, p2, q2, rfl, rfl, rfl, h2, r2⟩ := trodAll_cons r1
  obtain ⟨v3, vs3, d3, ds3, p3, q3, rfl, rfl, rfl, h3, r3⟩ := trodAll_cons r2
  obtain ⟨rfl, rfl, rfl⟩ := trodAll_nil r3
  obtain rfl : args = #[v0, v1, v2, v3] := by cases args; simp_all
  obtain ⟨rfl, rfl⟩ := trodVars_none hV
  clear hA0 hval0
  simp only [List.append_nil] at hW'
  have hlt0 : ∀ x ∈ p0, x.block < W.heap.size := fun x hx => by simpa using hW'.lt x (by simp [hx])
  have hlt1 : ∀ x ∈ p1, x.block < W.heap.size := fun x hx => by simpa using hW'.lt x (by simp [hx])
  have hlt2 : ∀ x ∈ p2, x.block < W.heap.size := fun x hx => by simpa using hW'.lt x (by simp [hx])
  have hlt3 : ∀ x ∈ p3, x.block < W.heap.size := fun x hx => by simpa using hW'.lt x (by simp [hx])
  obtain ⟨a0, e0, _, _, w0⟩ := open_int Try.underlying3 (hval 0 3 v0 rfl rfl) h0
  obtain ⟨l1, φ, H0, av1, hR, hv1, hs1⟩ := Go.AM.open_slice Go.AM.Cl.c (n := 8) (ks := [.i .i64, .i .u64, .i .u64, .i .i64, .i .i64]) Try.underlying41 (by kernel_rfl) (by kernel_rfl) Go.AM.read_cl (hval 1 41 v1 rfl rfl) h1
  have hsh1 := Go.AM.Shows.ofCl hs1
  obtain ⟨c2, e2, k2⟩ := Go.AM.open_flat (n := 8) (ks := [.i .u64, .i .u64, .i .i64]) Try.underlying33 (by kernel_rfl) (hval 2 33 v2 rfl rfl) h2
  obtain ⟨⟨a2, b2⟩, o2, y2⟩ := Go.AM.read_pre c2 k2
  obtain ⟨c3, e3, k3⟩ := Go.AM.open_flatA (n := 8) (ks := [.i .u64, .i .u64]) Try.underlying31 (by kernel_rfl) (hval 3 31 v3 rfl rfl) h3
  obtain ⟨a3, o3, y3⟩ := Go.AM.read_adr c3 k3
  have hcall : Calls Try.prog 4 #[v0, v1, v2, v3] W fun e w' => e = .returned (.bool true) ∧ Below W.heap.size W w' := C.law_calls (f := 4) (φ := φ) (H0 := H0) (vargs := [v0, v1, v2, v3]) (C.finds_true (hook := C.noHook) (lim := 0) (H := H0) a0 av1 l1 a2 b2 a3 hsh1) (hR) (.mk (by rw [e0]; exact Go.AM.VRel.mkInt _ _) (.mk hv1 (.mk (by rw [e2]; exact Go.AM.VRel.mkAgg o2 (y2 _)) (.mk (by rw [e3]; exact Go.AM.VRel.mkAgg o3 (y3 _)) Go.AM.VRels.mk0))))
  refine hcall.mono fun e W' ⟨he, hg⟩ => ?_
  subst he
  refine ⟨_, rfl, _, _, _, [], (p0 ++ (p1 ++ (p2 ++ (p3 ++ [])))), [], hW', ?_, ?_, rfl, hg.frame _, fun h => by cases h⟩
  · exact trodAll_cons_mk (shut_bool Try.underlying4 _) trodAll_mk0
  · exact (trodAll_cons_mk (Below.trod C.laidOut (by kernel_rfl) (of_decide_eq_true (by kernel_rfl)) h0 hg hlt0) (trodAll_cons_mk (Below.trod C.laidOut (by kernel_rfl) (of_decide_eq_true (by kernel_rfl)) h1 hg hlt1) (trodAll_cons_mk (Below.trod C.laidOut (by kernel_rfl) (of_decide_eq_true (by kernel_rfl)) h2 hg hlt2) (trodAll_cons_mk (Below.trod C.laidOut (by kernel_rfl) (of_decide_eq_true (by kernel_rfl)) h3 hg hlt3) trodAll_mk0))))

theorem over : Rows.trieFindsRow.holds Try.pinned (OpenSpec.ofChange Rows.trieFindsSpec) :=
  OpenClaim.holds_of_wide 4 Try.f4 rfl rfl rfl rfl rfl rfl rfl ⟨rfl, rfl, rfl, rfl, rfl⟩ rfl rfl rfl rfl rfl (by kernel_rfl) Try.func4 (by kernel_rfl)
    (of_decide_eq_true (by kernel_rfl)) (by unfold Func.isWrapper; first | (rw [if_pos (by decide +kernel)]; kernel_rfl) | (rw [if_neg (by decide +kernel)]; exact ⟨rfl, rfl⟩))
    (fun os started H enc _ => lifted os started H enc)
end Finds
/-- The statement. -/
theorem trieFinds_holds : Rows.TrieFindsSaid := Finds.over
#print axioms trieFinds_holds
end Go.Proofs.Ytdapdfaejemgdaa

