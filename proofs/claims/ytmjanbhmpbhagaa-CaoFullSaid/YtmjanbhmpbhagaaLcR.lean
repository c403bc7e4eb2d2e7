/- ARGUMENTS READ AS WORDS, ENTRIES, SLOTS, STEPS. Conditions: none. -/
import Derived.Test.YtmjanbhmpbhagaaLcC
import Derived.Test.YtmjanbhmpbhagaaLbK
set_option linter.unusedVariables false
namespace Go.AM
theorem read_en (cs : List Value) (h : CellsOk [.i .u64, .i .u64, .i .u64, .i .u64, .i .i64, .i .i64] cs) : ∃ x : En, (x.c).all AV.one = true ∧ ∀ φ, VRels φ x.c cs := by
  obtain ⟨a, r, rfl, h1⟩ := cells_adr h
  obtain ⟨b, r, rfl, h2⟩ := cells_adr h1
  obtain ⟨n, r, rfl, h3⟩ := cells_int h2
  obtain ⟨x, r, rfl, h4⟩ := cells_int h3
  have := h4.nil
  subst this
  exact ⟨⟨⟨a, b⟩, n, x⟩, rfl, fun φ => .mk (.mkU _) (.mk (.mkU _) (.mk (.mkU _) (.mk (.mkU _) (.mk (.mkInt _ _) (.mk (.mkInt _ _) .mk0)))))⟩
theorem read_sl (cs : List Value) (h : CellsOk [.b, .i .u64, .i .u64, .i .u64, .i .u64, .i .i64, .i .i64] cs) : ∃ x : Sl, (x.c).all AV.one = true ∧ ∀ φ, VRels φ x.c cs := by
  obtain ⟨k, r, rfl, h0⟩ := cells_bool h
  obtain ⟨x, h1, h2⟩ := read_en r h0
  exact ⟨⟨k, x⟩, h1, fun φ => .mk (.mkBool _) (h2 φ)⟩
theorem read_stp (cs : List Value) (h : CellsOk [.i .i64, .i .u64, .i .u64, .i .u64, .i .u64, .i .i64, .i .i64] cs) : ∃ x : Stp, (x.c).all AV.one = true ∧ ∀ φ, VRels φ x.c cs := by
  obtain ⟨k, r, rfl, h0⟩ := cells_int h
  obtain ⟨x, h1, h2⟩ := read_en r h0
  exact ⟨⟨k, x⟩, h1, fun φ => .mk (.mkInt _ _) (h2 φ)⟩
end Go.AM
