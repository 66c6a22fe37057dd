/- The functions, one by one (written by mkglobal.py). -/
import Derived.Test.YtjgijnimbnielaaChk
set_option maxRecDepth 100000
set_option linter.unusedVariables false
namespace Go.Proofs.Cp
open Go
open Go.Proofs
theorem chk65 : ∃ F fz, G.P.funcs[G.T 65]? = some F ∧ cFun { G with frz := fz } false F = some ir65 := ⟨Try.f59, frzF, Try.func59, by kernel_rfl⟩
theorem chk66 : ∃ F fz, G.P.funcs[G.T 66]? = some F ∧ cFun { G with frz := fz } false F = some ir66 := ⟨Try.f60, frzF, Try.func60, by kernel_rfl⟩
theorem chk73 : ∃ F fz, G.P.funcs[G.T 73]? = some F ∧ cFun { G with frz := fz } false F = some ir73 := ⟨Try.f55, frzF, Try.func55, by kernel_rfl⟩
theorem chk76 : ∃ F fz, G.P.funcs[G.T 76]? = some F ∧ cFun { G with frz := fz } false F = some ir76 := ⟨Try.f30, frzF, Try.func30, by kernel_rfl⟩
theorem chk77 : ∃ F fz, G.P.funcs[G.T 77]? = some F ∧ cFun { G with frz := fz } false F = some ir77 := ⟨Try.f51, frzF, Try.func51, by kernel_rfl⟩
theorem chk79 : ∃ F fz, G.P.funcs[G.T 79]? = some F ∧ cFun { G with frz := fz } false F = some ir79 := ⟨Try.f69, frzF, Try.func69, by kernel_rfl⟩
theorem chk103 : ∃ F fz, G.P.funcs[G.T 103]? = some F ∧ cFun { G with frz := fz } false F = some ir103 := ⟨Try.f15, frzF, Try.func15, by kernel_rfl⟩
theorem chk114 : ∃ F fz, G.P.funcs[G.T 114]? = some F ∧ cFun { G with frz := fz } false F = some ir114 := ⟨Try.f41, frzF, Try.func41, by kernel_rfl⟩
theorem chk126 : ∃ F fz, G.P.funcs[G.T 126]? = some F ∧ cFun { G with frz := fz } false F = some ir126 := ⟨Try.f29, frzF, Try.func29, by kernel_rfl⟩
theorem chk136 : ∃ F fz, G.P.funcs[G.T 136]? = some F ∧ cFun { G with frz := fz } false F = some ir136 := ⟨Try.f8, frzF, Try.func8, by kernel_rfl⟩
theorem chk138 : ∃ F fz, G.P.funcs[G.T 138]? = some F ∧ cFun { G with frz := fz } false F = some ir138 := ⟨Try.f12, frzF, Try.func12, by kernel_rfl⟩
theorem chk139 : ∃ F fz, G.P.funcs[G.T 139]? = some F ∧ cFun { G with frz := fz } false F = some ir139 := ⟨Try.f19, frzF, Try.func19, by kernel_rfl⟩
theorem chk141 : ∃ F fz, G.P.funcs[G.T 141]? = some F ∧ cFun { G with frz := fz } false F = some ir141 := ⟨Try.f21, frzF, Try.func21, by kernel_rfl⟩
theorem chk143 : ∃ F fz, G.P.funcs[G.T 143]? = some F ∧ cFun { G with frz := fz } false F = some ir143 := ⟨Try.f24, frzF, Try.func24, by kernel_rfl⟩
theorem chk144 : ∃ F fz, G.P.funcs[G.T 144]? = some F ∧ cFun { G with frz := fz } false F = some ir144 := ⟨Try.f32, (fun c => frzF c && ![143].contains c), Try.func32, by kernel_rfl⟩
theorem chk145 : ∃ F fz, G.P.funcs[G.T 145]? = some F ∧ cFun { G with frz := fz } false F = some ir145 := ⟨Try.f35, frzF, Try.func35, by kernel_rfl⟩
theorem chk146 : ∃ F fz, G.P.funcs[G.T 146]? = some F ∧ cFun { G with frz := fz } true F = some ir146 := ⟨Try.f44, frzF, Try.func44, by kernel_rfl⟩
theorem chk147 : ∃ F fz, G.P.funcs[G.T 147]? = some F ∧ cFun { G with frz := fz } false F = some ir147 := ⟨Try.f45, frzF, Try.func45, by kernel_rfl⟩
theorem chk148 : ∃ F fz, G.P.funcs[G.T 148]? = some F ∧ cFun { G with frz := fz } false F = some ir148 := ⟨Try.f46, frzF, Try.func46, by kernel_rfl⟩
theorem chk149 : ∃ F fz, G.P.funcs[G.T 149]? = some F ∧ cFun { G with frz := fz } false F = some ir149 := ⟨Try.f47, frzF, Try.func47, by kernel_rfl⟩
theorem chk151 : ∃ F fz, G.P.funcs[G.T 151]? = some F ∧ cFun { G with frz := fz } true F = some ir151 := ⟨Try.f53, frzF, Try.func53, by kernel_rfl⟩
end Go.Proofs.Cp
