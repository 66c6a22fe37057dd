/- The functions, one by one (written by mkglobal.py). -/
import Derived.Test.YtjgijnimbnielaaDoorChk
set_option maxRecDepth 100000
set_option linter.unusedVariables false
namespace Go.Proofs.Cp
open Go
open Go.Proofs
theorem chk11 : ∃ F fz, G.P.funcs[G.T 11]? = some F ∧ cFun { G with frz := fz } false F = some ir11 := ⟨Tryd.f11, frzF, Tryd.func11, by kernel_rfl⟩
theorem chk12 : ∃ F fz, G.P.funcs[G.T 12]? = some F ∧ cFun { G with frz := fz } false F = some ir12 := ⟨Tryd.f34, frzF, Tryd.func34, by kernel_rfl⟩
theorem chk13 : ∃ F fz, G.P.funcs[G.T 13]? = some F ∧ cFun { G with frz := fz } false F = some ir13 := ⟨Tryd.f14, frzF, Tryd.func14, by kernel_rfl⟩
theorem chk14 : ∃ F fz, G.P.funcs[G.T 14]? = some F ∧ cFun { G with frz := fz } false F = some ir14 := ⟨Tryd.f15, frzF, Tryd.func15, by kernel_rfl⟩
theorem chk15 : ∃ F fz, G.P.funcs[G.T 15]? = some F ∧ cFun { G with frz := fz } false F = some ir15 := ⟨Tryd.f28, frzF, Tryd.func28, by kernel_rfl⟩
theorem chk16 : ∃ F fz, G.P.funcs[G.T 16]? = some F ∧ cFun { G with frz := fz } false F = some ir16 := ⟨Tryd.f32, frzF, Tryd.func32, by kernel_rfl⟩
theorem chk17 : ∃ F fz, G.P.funcs[G.T 17]? = some F ∧ cFun { G with frz := fz } false F = some ir17 := ⟨Tryd.f60, frzF, Tryd.func60, by kernel_rfl⟩
theorem chk19 : ∃ F fz, G.P.funcs[G.T 19]? = some F ∧ cFun { G with frz := fz } false F = some ir19 := ⟨Tryd.f58, frzF, Tryd.func58, by kernel_rfl⟩
theorem chk21 : ∃ F fz, G.P.funcs[G.T 21]? = some F ∧ cFun { G with frz := fz } false F = some ir21 := ⟨Tryd.f59, frzF, Tryd.func59, by kernel_rfl⟩
theorem chk23 : ∃ F fz, G.P.funcs[G.T 23]? = some F ∧ cFun { G with frz := fz } false F = some ir23 := ⟨Tryd.f35, frzF, Tryd.func35, by kernel_rfl⟩
theorem chk25 : ∃ F fz, G.P.funcs[G.T 25]? = some F ∧ cFun { G with frz := fz } false F = some ir25 := ⟨Tryd.f29, frzF, Tryd.func29, by kernel_rfl⟩
theorem chk28 : ∃ F fz, G.P.funcs[G.T 28]? = some F ∧ cFun { G with frz := fz } false F = some ir28 := ⟨Tryd.f37, frzF, Tryd.func37, by kernel_rfl⟩
theorem chk30 : ∃ F fz, G.P.funcs[G.T 30]? = some F ∧ cFun { G with frz := fz } false F = some ir30 := ⟨Tryd.f65, frzF, Tryd.func65, by kernel_rfl⟩
theorem chk37 : ∃ F fz, G.P.funcs[G.T 37]? = some F ∧ cFun { G with frz := fz } false F = some ir37 := ⟨Tryd.f81, frzF, Tryd.func81, by kernel_rfl⟩
theorem chk39 : ∃ F fz, G.P.funcs[G.T 39]? = some F ∧ cFun { G with frz := fz } false F = some ir39 := ⟨Tryd.f76, frzF, Tryd.func76, by kernel_rfl⟩
theorem chk40 : ∃ F fz, G.P.funcs[G.T 40]? = some F ∧ cFun { G with frz := fz } false F = some ir40 := ⟨Tryd.f97, frzF, Tryd.func97, by kernel_rfl⟩
theorem chk41 : ∃ F fz, G.P.funcs[G.T 41]? = some F ∧ cFun { G with frz := fz } false F = some ir41 := ⟨Tryd.f80, frzF, Tryd.func80, by kernel_rfl⟩
theorem chk47 : ∃ F fz, G.P.funcs[G.T 47]? = some F ∧ cFun { G with frz := fz } false F = some ir47 := ⟨Tryd.f57, frzF, Tryd.func57, by kernel_rfl⟩
theorem chk48 : ∃ F fz, G.P.funcs[G.T 48]? = some F ∧ cFun { G with frz := fz } false F = some ir48 := ⟨Tryd.f38, frzF, Tryd.func38, by kernel_rfl⟩
theorem chk49 : ∃ F fz, G.P.funcs[G.T 49]? = some F ∧ cFun { G with frz := fz } true F = some ir49 := ⟨Tryd.f39, frzF, Tryd.func39, by kernel_rfl⟩
theorem chk50 : ∃ F fz, G.P.funcs[G.T 50]? = some F ∧ cFun { G with frz := fz } true F = some ir50 := ⟨Tryd.f40, frzF, Tryd.func40, by kernel_rfl⟩
end Go.Proofs.Cp
