/- The functions, one by one (written by mkglobal.py). -/
import Derived.Test.YtjgijnimbnielaaDoorChk
set_option maxRecDepth 100000
set_option linter.unusedVariables false
namespace Go.Proofs.Cp
open Go
open Go.Proofs
theorem chk59 : ∃ F fz, G.P.funcs[G.T 59]? = some F ∧ cFun { G with frz := fz } false F = some ir59 := ⟨Tryd.f45, frzF, Tryd.func45, by kernel_rfl⟩
theorem chk61 : ∃ F fz, G.P.funcs[G.T 61]? = some F ∧ cFun { G with frz := fz } true F = some ir61 := ⟨Tryd.f61, frzF, Tryd.func61, by kernel_rfl⟩
theorem chk62 : ∃ F fz, G.P.funcs[G.T 62]? = some F ∧ cFun { G with frz := fz } true F = some ir62 := ⟨Tryd.f62, frzF, Tryd.func62, by kernel_rfl⟩
theorem chk63 : ∃ F fz, G.P.funcs[G.T 63]? = some F ∧ cFun { G with frz := fz } false F = some ir63 := ⟨Tryd.f83, frzF, Tryd.func83, by kernel_rfl⟩
theorem chk64 : ∃ F fz, G.P.funcs[G.T 64]? = some F ∧ cFun { G with frz := fz } false F = some ir64 := ⟨Tryd.f84, frzF, Tryd.func84, by kernel_rfl⟩
theorem chk65 : ∃ F fz, G.P.funcs[G.T 65]? = some F ∧ cFun { G with frz := fz } false F = some ir65 := ⟨Tryd.f85, frzF, Tryd.func85, by kernel_rfl⟩
theorem chk66 : ∃ F fz, G.P.funcs[G.T 66]? = some F ∧ cFun { G with frz := fz } false F = some ir66 := ⟨Tryd.f86, frzF, Tryd.func86, by kernel_rfl⟩
theorem chk73 : ∃ F fz, G.P.funcs[G.T 73]? = some F ∧ cFun { G with frz := fz } false F = some ir73 := ⟨Tryd.f98, frzF, Tryd.func98, by kernel_rfl⟩
theorem chk76 : ∃ F fz, G.P.funcs[G.T 76]? = some F ∧ cFun { G with frz := fz } false F = some ir76 := ⟨Tryd.f64, frzF, Tryd.func64, by kernel_rfl⟩
theorem chk77 : ∃ F fz, G.P.funcs[G.T 77]? = some F ∧ cFun { G with frz := fz } false F = some ir77 := ⟨Tryd.f87, frzF, Tryd.func87, by kernel_rfl⟩
theorem chk79 : ∃ F fz, G.P.funcs[G.T 79]? = some F ∧ cFun { G with frz := fz } false F = some ir79 := ⟨Tryd.f99, frzF, Tryd.func99, by kernel_rfl⟩
theorem chk84 : ∃ F fz, G.P.funcs[G.T 84]? = some F ∧ cFun { G with frz := fz } false F = some ir84 := ⟨Tryd.f6, frzF, Tryd.func6, by kernel_rfl⟩
theorem chk89 : ∃ F fz, G.P.funcs[G.T 89]? = some F ∧ cFun { G with frz := fz } false F = some ir89 := ⟨Tryd.f13, frzF, Tryd.func13, by kernel_rfl⟩
theorem chk90 : ∃ F fz, G.P.funcs[G.T 90]? = some F ∧ cFun { G with frz := fz } false F = some ir90 := ⟨Tryd.f16, frzF, Tryd.func16, by kernel_rfl⟩
theorem chk93 : ∃ F fz, G.P.funcs[G.T 93]? = some F ∧ cFun { G with frz := fz } false F = some ir93 := ⟨Tryd.f19, frzF, Tryd.func19, by kernel_rfl⟩
theorem chk95 : ∃ F fz, G.P.funcs[G.T 95]? = some F ∧ cFun { G with frz := fz } false F = some ir95 := ⟨Tryd.f21, frzF, Tryd.func21, by kernel_rfl⟩
theorem chk97 : ∃ F fz, G.P.funcs[G.T 97]? = some F ∧ cFun { G with frz := fz } false F = some ir97 := ⟨Tryd.f24, frzF, Tryd.func24, by kernel_rfl⟩
theorem chk99 : ∃ F fz, G.P.funcs[G.T 99]? = some F ∧ cFun { G with frz := fz } false F = some ir99 := ⟨Tryd.f26, frzF, Tryd.func26, by kernel_rfl⟩
theorem chk101 : ∃ F fz, G.P.funcs[G.T 101]? = some F ∧ cFun { G with frz := fz } false F = some ir101 := ⟨Tryd.f31, frzF, Tryd.func31, by kernel_rfl⟩
theorem chk102 : ∃ F fz, G.P.funcs[G.T 102]? = some F ∧ cFun { G with frz := fz } false F = some ir102 := ⟨Tryd.f36, frzF, Tryd.func36, by kernel_rfl⟩
theorem chk103 : ∃ F fz, G.P.funcs[G.T 103]? = some F ∧ cFun { G with frz := fz } false F = some ir103 := ⟨Tryd.f44, frzF, Tryd.func44, by kernel_rfl⟩
end Go.Proofs.Cp
