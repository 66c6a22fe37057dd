/- The functions, one by one (written by mkglobal.py). -/
import Derived.Test.YtjgijnimbnielaaChk
set_option maxRecDepth 100000
set_option linter.unusedVariables false
namespace Go.Proofs.Cp
open Go
open Go.Proofs
theorem chk103 : ∃ F fz, G.P.funcs[G.T 103]? = some F ∧ cFun { G with frz := fz } false F = some ir103 := ⟨Try.f15, frzF, Try.func15, by kernel_rfl⟩
theorem chk114 : ∃ F fz, G.P.funcs[G.T 114]? = some F ∧ cFun { G with frz := fz } false F = some ir114 := ⟨Try.f41, frzF, Try.func41, by kernel_rfl⟩
theorem chk126 : ∃ F fz, G.P.funcs[G.T 126]? = some F ∧ cFun { G with frz := fz } false F = some ir126 := ⟨Try.f29, frzF, Try.func29, by kernel_rfl⟩
theorem chk137 : ∃ F fz, G.P.funcs[G.T 137]? = some F ∧ cFun { G with frz := fz } false F = some ir137 := ⟨Try.f9, frzF, Try.func9, by kernel_rfl⟩
theorem chk138 : ∃ F fz, G.P.funcs[G.T 138]? = some F ∧ cFun { G with frz := fz } false F = some ir138 := ⟨Try.f12, frzF, Try.func12, by kernel_rfl⟩
theorem chk139 : ∃ F fz, G.P.funcs[G.T 139]? = some F ∧ cFun { G with frz := fz } false F = some ir139 := ⟨Try.f19, frzF, Try.func19, by kernel_rfl⟩
theorem chk141 : ∃ F fz, G.P.funcs[G.T 141]? = some F ∧ cFun { G with frz := fz } false F = some ir141 := ⟨Try.f21, frzF, Try.func21, by kernel_rfl⟩
theorem chk143 : ∃ F fz, G.P.funcs[G.T 143]? = some F ∧ cFun { G with frz := fz } false F = some ir143 := ⟨Try.f24, frzF, Try.func24, by kernel_rfl⟩
theorem chk144 : ∃ F fz, G.P.funcs[G.T 144]? = some F ∧ cFun { G with frz := fz } false F = some ir144 := ⟨Try.f32, (fun c => frzF c && ![143].contains c), Try.func32, by kernel_rfl⟩
theorem chk145 : ∃ F fz, G.P.funcs[G.T 145]? = some F ∧ cFun { G with frz := fz } false F = some ir145 := ⟨Try.f35, frzF, Try.func35, by kernel_rfl⟩
theorem chk146 : ∃ F fz, G.P.funcs[G.T 146]? = some F ∧ cFun { G with frz := fz } true F = some ir146 := ⟨Try.f44, frzF, Try.func44, by kernel_rfl⟩
theorem chk147 : ∃ F fz, G.P.funcs[G.T 147]? = some F ∧ cFun { G with frz := fz } false F = some ir147 := ⟨Try.f45, frzF, Try.func45, by kernel_rfl⟩
theorem chk148 : ∃ F fz, G.P.funcs[G.T 148]? = some F ∧ cFun { G with frz := fz } false F = some ir148 := ⟨Try.f46, frzF, Try.func46, by kernel_rfl⟩
theorem chk149 : ∃ F fz, G.P.funcs[G.T 149]? = some F ∧ cFun { G with frz := fz } false F = some ir149 := ⟨Try.f47, frzF, Try.func47, by kernel_rfl⟩
theorem chk151 : ∃ F fz, G.P.funcs[G.T 151]? = some F ∧ cFun { G with frz := fz } true F = some ir151 := ⟨Try.f53, frzF, Try.func53, by kernel_rfl⟩
theorem chk152 : ∃ F fz, G.P.funcs[G.T 152]? = some F ∧ cFun { G with frz := fz } false F = some ir152 := ⟨Try.f54, frzF, Try.func54, by kernel_rfl⟩
theorem chk153 : ∃ F fz, G.P.funcs[G.T 153]? = some F ∧ cFun { G with frz := fz } true F = some ir153 := ⟨Try.f64, frzF, Try.func64, by kernel_rfl⟩
theorem chk154 : ∃ F fz, G.P.funcs[G.T 154]? = some F ∧ cFun { G with frz := fz } false F = some ir154 := ⟨Try.f65, frzF, Try.func65, by kernel_rfl⟩
theorem chk155 : ∃ F fz, G.P.funcs[G.T 155]? = some F ∧ cFun { G with frz := fz } false F = some ir155 := ⟨Try.f66, frzF, Try.func66, by kernel_rfl⟩
end Go.Proofs.Cp
