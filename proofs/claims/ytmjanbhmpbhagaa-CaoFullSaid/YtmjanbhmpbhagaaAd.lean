/- THE CODE IS THE PROGRAM'S: each function's, by the kernel (written by program). Conditions: none. -/
import Derived.Test.YtmjanbhmpbhagaaAc
import Derived.Test.YtmjanbhmpbhagaaAm14
import Derived.Test.YtmjanbhmpbhagaaProg
import Derived.KernelRfl
set_option linter.unusedVariables false
namespace Go.Proofs.Ytmjanbhmpbhagaa.C
open Go.AM
def Ok (f : Nat) (af : AFunc) : Prop := ∃ fn, Try.prog.funcs[f]? = some fn ∧ (fn.name == "runtime.NumGoroutine") = false ∧ compFunc Try.prog af.mode fn = some af
theorem c3 : Ok 3 f3 := ⟨_, Try.func3, by kernel_rfl, by kernel_rfl⟩
theorem c4 : Ok 4 f4 := ⟨_, Try.func4, by kernel_rfl, by kernel_rfl⟩
theorem c5 : Ok 5 f5 := ⟨_, Try.func5, by kernel_rfl, by kernel_rfl⟩
theorem c6 : Ok 6 f6 := ⟨_, Try.func6, by kernel_rfl, by kernel_rfl⟩
theorem c7 : Ok 7 f7 := ⟨_, Try.func7, by kernel_rfl, by kernel_rfl⟩
theorem c8 : Ok 8 f8 := ⟨_, Try.func8, by kernel_rfl, by kernel_rfl⟩
theorem c9 : Ok 9 f9 := ⟨_, Try.func9, by kernel_rfl, by kernel_rfl⟩
theorem c10 : Ok 10 f10 := ⟨_, Try.func10, by kernel_rfl, by kernel_rfl⟩
theorem c11 : Ok 11 f11 := ⟨_, Try.func11, by kernel_rfl, by kernel_rfl⟩
theorem c12 : Ok 12 f12 := ⟨_, Try.func12, by kernel_rfl, by kernel_rfl⟩
theorem c13 : Ok 13 f13 := ⟨_, Try.func13, by kernel_rfl, by kernel_rfl⟩
theorem c14 : Ok 14 f14 := ⟨_, Try.func14, by kernel_rfl, by kernel_rfl⟩
theorem c15 : Ok 15 f15 := ⟨_, Try.func15, by kernel_rfl, by kernel_rfl⟩
theorem c16 : Ok 16 f16 := ⟨_, Try.func16, by kernel_rfl, by kernel_rfl⟩
theorem c17 : Ok 17 f17 := ⟨_, Try.func17, by kernel_rfl, by kernel_rfl⟩
theorem c18 : Ok 18 f18 := ⟨_, Try.func18, by kernel_rfl, by kernel_rfl⟩
theorem c19 : Ok 19 f19 := ⟨_, Try.func19, by kernel_rfl, by kernel_rfl⟩
theorem c20 : Ok 20 f20 := ⟨_, Try.func20, by kernel_rfl, by kernel_rfl⟩
theorem c21 : Ok 21 f21 := ⟨_, Try.func21, by kernel_rfl, by kernel_rfl⟩
theorem c22 : Ok 22 f22 := ⟨_, Try.func22, by kernel_rfl, by kernel_rfl⟩
theorem c23 : Ok 23 f23 := ⟨_, Try.func23, by kernel_rfl, by kernel_rfl⟩
theorem c24 : Ok 24 f24 := ⟨_, Try.func24, by kernel_rfl, by kernel_rfl⟩
theorem c25 : Ok 25 f25 := ⟨_, Try.func25, by kernel_rfl, by kernel_rfl⟩
theorem c26 : Ok 26 f26 := ⟨_, Try.func26, by kernel_rfl, by kernel_rfl⟩
theorem c27 : Ok 27 f27 := ⟨_, Try.func27, by kernel_rfl, by kernel_rfl⟩
theorem c28 : Ok 28 f28 := ⟨_, Try.func28, by kernel_rfl, by kernel_rfl⟩
theorem c29 : Ok 29 f29 := ⟨_, Try.func29, by kernel_rfl, by kernel_rfl⟩
theorem c30 : Ok 30 f30 := ⟨_, Try.func30, by kernel_rfl, by kernel_rfl⟩
theorem c31 : Ok 31 f31 := ⟨_, Try.func31, by kernel_rfl, by kernel_rfl⟩
theorem c32 : Ok 32 f32 := ⟨_, Try.func32, by kernel_rfl, by kernel_rfl⟩
theorem c33 : Ok 33 f33 := ⟨_, Try.func33, by kernel_rfl, by kernel_rfl⟩
theorem c34 : Ok 34 f34 := ⟨_, Try.func34, by kernel_rfl, by kernel_rfl⟩
theorem c35 : Ok 35 f35 := ⟨_, Try.func35, by kernel_rfl, by kernel_rfl⟩
theorem c36 : Ok 36 f36 := ⟨_, Try.func36, by kernel_rfl, by kernel_rfl⟩
theorem c37 : Ok 37 f37 := ⟨_, Try.func37, by kernel_rfl, by kernel_rfl⟩
theorem c38 : Ok 38 f38 := ⟨_, Try.func38, by kernel_rfl, by kernel_rfl⟩
theorem c39 : Ok 39 f39 := ⟨_, Try.func39, by kernel_rfl, by kernel_rfl⟩
theorem c40 : Ok 40 f40 := ⟨_, Try.func40, by kernel_rfl, by kernel_rfl⟩
theorem c41 : Ok 41 f41 := ⟨_, Try.func41, by kernel_rfl, by kernel_rfl⟩
theorem c42 : Ok 42 f42 := ⟨_, Try.func42, by kernel_rfl, by kernel_rfl⟩
theorem c43 : Ok 43 f43 := ⟨_, Try.func43, by kernel_rfl, by kernel_rfl⟩
theorem c44 : Ok 44 f44 := ⟨_, Try.func44, by kernel_rfl, by kernel_rfl⟩
theorem c45 : Ok 45 f45 := ⟨_, Try.func45, by kernel_rfl, by kernel_rfl⟩
theorem c46 : Ok 46 f46 := ⟨_, Try.func46, by kernel_rfl, by kernel_rfl⟩
theorem c47 : Ok 47 f47 := ⟨_, Try.func47, by kernel_rfl, by kernel_rfl⟩
theorem c48 : Ok 48 f48 := ⟨_, Try.func48, by kernel_rfl, by kernel_rfl⟩
theorem c49 : Ok 49 f49 := ⟨_, Try.func49, by kernel_rfl, by kernel_rfl⟩
theorem c50 : Ok 50 f50 := ⟨_, Try.func50, by kernel_rfl, by kernel_rfl⟩
theorem c51 : Ok 51 f51 := ⟨_, Try.func51, by kernel_rfl, by kernel_rfl⟩
theorem c52 : Ok 52 f52 := ⟨_, Try.func52, by kernel_rfl, by kernel_rfl⟩
theorem c53 : Ok 53 f53 := ⟨_, Try.func53, by kernel_rfl, by kernel_rfl⟩
theorem c54 : Ok 54 f54 := ⟨_, Try.func54, by kernel_rfl, by kernel_rfl⟩
theorem c55 : Ok 55 f55 := ⟨_, Try.func55, by kernel_rfl, by kernel_rfl⟩
theorem c56 : Ok 56 f56 := ⟨_, Try.func56, by kernel_rfl, by kernel_rfl⟩
theorem c57 : Ok 57 f57 := ⟨_, Try.func57, by kernel_rfl, by kernel_rfl⟩
theorem c58 : Ok 58 f58 := ⟨_, Try.func58, by kernel_rfl, by kernel_rfl⟩
theorem c59 : Ok 59 f59 := ⟨_, Try.func59, by kernel_rfl, by kernel_rfl⟩
theorem c60 : Ok 60 f60 := ⟨_, Try.func60, by kernel_rfl, by kernel_rfl⟩
theorem c61 : Ok 61 f61 := ⟨_, Try.func61, by kernel_rfl, by kernel_rfl⟩
theorem c62 : Ok 62 f62 := ⟨_, Try.func62, by kernel_rfl, by kernel_rfl⟩
theorem c63 : Ok 63 f63 := ⟨_, Try.func63, by kernel_rfl, by kernel_rfl⟩
theorem c64 : Ok 64 f64 := ⟨_, Try.func64, by kernel_rfl, by kernel_rfl⟩
theorem c65 : Ok 65 f65 := ⟨_, Try.func65, by kernel_rfl, by kernel_rfl⟩
theorem c66 : Ok 66 f66 := ⟨_, Try.func66, by kernel_rfl, by kernel_rfl⟩
theorem c67 : Ok 67 f67 := ⟨_, Try.func67, by kernel_rfl, by kernel_rfl⟩
theorem c68 : Ok 68 f68 := ⟨_, Try.func68, by kernel_rfl, by kernel_rfl⟩
theorem c69 : Ok 69 f69 := ⟨_, Try.func69, by kernel_rfl, by kernel_rfl⟩
theorem c70 : Ok 70 f70 := ⟨_, Try.func70, by kernel_rfl, by kernel_rfl⟩
theorem c71 : Ok 71 f71 := ⟨_, Try.func71, by kernel_rfl, by kernel_rfl⟩
theorem c72 : Ok 72 f72 := ⟨_, Try.func72, by kernel_rfl, by kernel_rfl⟩
theorem c73 : Ok 73 f73 := ⟨_, Try.func73, by kernel_rfl, by kernel_rfl⟩
theorem c74 : Ok 74 f74 := ⟨_, Try.func74, by kernel_rfl, by kernel_rfl⟩
theorem c75 : Ok 75 f75 := ⟨_, Try.func75, by kernel_rfl, by kernel_rfl⟩
theorem c76 : Ok 76 f76 := ⟨_, Try.func76, by kernel_rfl, by kernel_rfl⟩
theorem c77 : Ok 77 f77 := ⟨_, Try.func77, by kernel_rfl, by kernel_rfl⟩
theorem c78 : Ok 78 f78 := ⟨_, Try.func78, by kernel_rfl, by kernel_rfl⟩
theorem c79 : Ok 79 f79 := ⟨_, Try.func79, by kernel_rfl, by kernel_rfl⟩
theorem c80 : Ok 80 f80 := ⟨_, Try.func80, by kernel_rfl, by kernel_rfl⟩
theorem c81 : Ok 81 f81 := ⟨_, Try.func81, by kernel_rfl, by kernel_rfl⟩
theorem c82 : Ok 82 f82 := ⟨_, Try.func82, by kernel_rfl, by kernel_rfl⟩
theorem c83 : Ok 83 f83 := ⟨_, Try.func83, by kernel_rfl, by kernel_rfl⟩
theorem c84 : Ok 84 f84 := ⟨_, Try.func84, by kernel_rfl, by kernel_rfl⟩
theorem c85 : Ok 85 f85 := ⟨_, Try.func85, by kernel_rfl, by kernel_rfl⟩
theorem c86 : Ok 86 f86 := ⟨_, Try.func86, by kernel_rfl, by kernel_rfl⟩
theorem c87 : Ok 87 f87 := ⟨_, Try.func87, by kernel_rfl, by kernel_rfl⟩
theorem c88 : Ok 88 f88 := ⟨_, Try.func88, by kernel_rfl, by kernel_rfl⟩
theorem c89 : Ok 89 f89 := ⟨_, Try.func89, by kernel_rfl, by kernel_rfl⟩
theorem c90 : Ok 90 f90 := ⟨_, Try.func90, by kernel_rfl, by kernel_rfl⟩
theorem c91 : Ok 91 f91 := ⟨_, Try.func91, by kernel_rfl, by kernel_rfl⟩
theorem c92 : Ok 92 f92 := ⟨_, Try.func92, by kernel_rfl, by kernel_rfl⟩
theorem c93 : Ok 93 f93 := ⟨_, Try.func93, by kernel_rfl, by kernel_rfl⟩
theorem c94 : Ok 94 f94 := ⟨_, Try.func94, by kernel_rfl, by kernel_rfl⟩
theorem c95 : Ok 95 f95 := ⟨_, Try.func95, by kernel_rfl, by kernel_rfl⟩
theorem c96 : Ok 96 f96 := ⟨_, Try.func96, by kernel_rfl, by kernel_rfl⟩
theorem c97 : Ok 97 f97 := ⟨_, Try.func97, by kernel_rfl, by kernel_rfl⟩
theorem c98 : Ok 98 f98 := ⟨_, Try.func98, by kernel_rfl, by kernel_rfl⟩
theorem c99 : Ok 99 f99 := ⟨_, Try.func99, by kernel_rfl, by kernel_rfl⟩
theorem c100 : Ok 100 f100 := ⟨_, Try.func100, by kernel_rfl, by kernel_rfl⟩
theorem c101 : Ok 101 f101 := ⟨_, Try.func101, by kernel_rfl, by kernel_rfl⟩
theorem c102 : Ok 102 f102 := ⟨_, Try.func102, by kernel_rfl, by kernel_rfl⟩
theorem c103 : Ok 103 f103 := ⟨_, Try.func103, by kernel_rfl, by kernel_rfl⟩
theorem c104 : Ok 104 f104 := ⟨_, Try.func104, by kernel_rfl, by kernel_rfl⟩
theorem c105 : Ok 105 f105 := ⟨_, Try.func105, by kernel_rfl, by kernel_rfl⟩
theorem c106 : Ok 106 f106 := ⟨_, Try.func106, by kernel_rfl, by kernel_rfl⟩
theorem c107 : Ok 107 f107 := ⟨_, Try.func107, by kernel_rfl, by kernel_rfl⟩
theorem c108 : Ok 108 f108 := ⟨_, Try.func108, by kernel_rfl, by kernel_rfl⟩
theorem c109 : Ok 109 f109 := ⟨_, Try.func109, by kernel_rfl, by kernel_rfl⟩
theorem c110 : Ok 110 f110 := ⟨_, Try.func110, by kernel_rfl, by kernel_rfl⟩
theorem c111 : Ok 111 f111 := ⟨_, Try.func111, by kernel_rfl, by kernel_rfl⟩
theorem c112 : Ok 112 f112 := ⟨_, Try.func112, by kernel_rfl, by kernel_rfl⟩
theorem c113 : Ok 113 f113 := ⟨_, Try.func113, by kernel_rfl, by kernel_rfl⟩
theorem c114 : Ok 114 f114 := ⟨_, Try.func114, by kernel_rfl, by kernel_rfl⟩
theorem c115 : Ok 115 f115 := ⟨_, Try.func115, by kernel_rfl, by kernel_rfl⟩
theorem c116 : Ok 116 f116 := ⟨_, Try.func116, by kernel_rfl, by kernel_rfl⟩
theorem c117 : Ok 117 f117 := ⟨_, Try.func117, by kernel_rfl, by kernel_rfl⟩
theorem c118 : Ok 118 f118 := ⟨_, Try.func118, by kernel_rfl, by kernel_rfl⟩
theorem c119 : Ok 119 f119 := ⟨_, Try.func119, by kernel_rfl, by kernel_rfl⟩
theorem c120 : Ok 120 f120 := ⟨_, Try.func120, by kernel_rfl, by kernel_rfl⟩
theorem c121 : Ok 121 f121 := ⟨_, Try.func121, by kernel_rfl, by kernel_rfl⟩
theorem c122 : Ok 122 f122 := ⟨_, Try.func122, by kernel_rfl, by kernel_rfl⟩
theorem c123 : Ok 123 f123 := ⟨_, Try.func123, by kernel_rfl, by kernel_rfl⟩
theorem c124 : Ok 124 f124 := ⟨_, Try.func124, by kernel_rfl, by kernel_rfl⟩
theorem c125 : Ok 125 f125 := ⟨_, Try.func125, by kernel_rfl, by kernel_rfl⟩
theorem c126 : Ok 126 f126 := ⟨_, Try.func126, by kernel_rfl, by kernel_rfl⟩
theorem c127 : Ok 127 f127 := ⟨_, Try.func127, by kernel_rfl, by kernel_rfl⟩
theorem c128 : Ok 128 f128 := ⟨_, Try.func128, by kernel_rfl, by kernel_rfl⟩
def AllOk : List (Nat × AFunc) → Prop
  | [] => True
  | p :: r => Ok p.1 p.2 ∧ AllOk r
theorem AllOk.get : ∀ {l : List (Nat × AFunc)}, AllOk l → ∀ p ∈ l, Ok p.1 p.2
  | q :: r, h, p, hp => by
    rcases List.mem_cons.1 hp with rfl | hp
    · exact h.1
    · exact AllOk.get h.2 p hp
theorem all_ok : AllOk tabL := ⟨c3, c4, c5, c6, c7, c8, c9, c10, c11, c12, c13, c14, c15, c16, c17, c18, c19, c20, c21, c22, c23, c24, c25, c26, c27, c28, c29, c30, c31, c32, c33, c34, c35, c36, c37, c38, c39, c40, c41, c42, c43, c44, c45, c46, c47, c48, c49, c50, c51, c52, c53, c54, c55, c56, c57, c58, c59, c60, c61, c62, c63, c64, c65, c66, c67, c68, c69, c70, c71, c72, c73, c74, c75, c76, c77, c78, c79, c80, c81, c82, c83, c84, c85, c86, c87, c88, c89, c90, c91, c92, c93, c94, c95, c96, c97, c98, c99, c100, c101, c102, c103, c104, c105, c106, c107, c108, c109, c110, c111, c112, c113, c114, c115, c116, c117, c118, c119, c120, c121, c122, c123, c124, c125, c126, c127, c128, trivial⟩
theorem tab_ok : ∀ f af, tab f = some af → Ok f af := by
  intro f af h
  unfold tab at h
  rw [Option.map_eq_some_iff] at h
  obtain ⟨p, hp, rfl⟩ := h
  have h1 := List.mem_of_find?_eq_some hp
  have h2 := List.find?_some hp
  have h3 : p.1 = f := by simpa using h2
  rw [← h3]
  exact all_ok.get p h1
end Go.Proofs.Ytmjanbhmpbhagaa.C
