/- The functions, one by one (written by mkglobal.py). -/
import Derived.Test.YtjgijnimbnielaaChk
set_option maxRecDepth 100000
set_option linter.unusedVariables false
namespace Go.Proofs.Cp
open Go
open Go.Proofs
theorem chk11 : ∃ F fz, G.P.funcs[G.T 11]? = some F ∧ cFun { G with frz := fz } false F = some ir11 := ⟨Try.f11, frzF, Try.func11, by kernel_rfl⟩
theorem chk15 : ∃ F fz, G.P.funcs[G.T 15]? = some F ∧ cFun { G with frz := fz } false F = some ir15 := ⟨Try.f17, frzF, Try.func17, by kernel_rfl⟩
theorem chk16 : ∃ F fz, G.P.funcs[G.T 16]? = some F ∧ cFun { G with frz := fz } false F = some ir16 := ⟨Try.f25, frzF, Try.func25, by kernel_rfl⟩
theorem chk28 : ∃ F fz, G.P.funcs[G.T 28]? = some F ∧ cFun { G with frz := fz } false F = some ir28 := ⟨Try.f13, frzF, Try.func13, by kernel_rfl⟩
theorem chk30 : ∃ F fz, G.P.funcs[G.T 30]? = some F ∧ cFun { G with frz := fz } false F = some ir30 := ⟨Try.f40, frzF, Try.func40, by kernel_rfl⟩
theorem chk37 : ∃ F fz, G.P.funcs[G.T 37]? = some F ∧ cFun { G with frz := fz } false F = some ir37 := ⟨Try.f34, frzF, Try.func34, by kernel_rfl⟩
theorem chk39 : ∃ F fz, G.P.funcs[G.T 39]? = some F ∧ cFun { G with frz := fz } false F = some ir39 := ⟨Try.f56, frzF, Try.func56, by kernel_rfl⟩
theorem chk48 : ∃ F fz, G.P.funcs[G.T 48]? = some F ∧ cFun { G with frz := fz } false F = some ir48 := ⟨Try.f36, frzF, Try.func36, by kernel_rfl⟩
theorem chk50 : ∃ F fz, G.P.funcs[G.T 50]? = some F ∧ cFun { G with frz := fz } true F = some ir50 := ⟨Try.f37, frzF, Try.func37, by kernel_rfl⟩
theorem chk55 : ∃ F fz, G.P.funcs[G.T 55]? = some F ∧ cFun { G with frz := fz } false F = some ir55 := ⟨Try.f27, frzF, Try.func27, by kernel_rfl⟩
theorem chk61 : ∃ F fz, G.P.funcs[G.T 61]? = some F ∧ cFun { G with frz := fz } true F = some ir61 := ⟨Try.f38, frzF, Try.func38, by kernel_rfl⟩
theorem chk62 : ∃ F fz, G.P.funcs[G.T 62]? = some F ∧ cFun { G with frz := fz } true F = some ir62 := ⟨Try.f39, frzF, Try.func39, by kernel_rfl⟩
theorem chk63 : ∃ F fz, G.P.funcs[G.T 63]? = some F ∧ cFun { G with frz := fz } false F = some ir63 := ⟨Try.f57, frzF, Try.func57, by kernel_rfl⟩
theorem chk64 : ∃ F fz, G.P.funcs[G.T 64]? = some F ∧ cFun { G with frz := fz } false F = some ir64 := ⟨Try.f58, frzF, Try.func58, by kernel_rfl⟩
theorem chk65 : ∃ F fz, G.P.funcs[G.T 65]? = some F ∧ cFun { G with frz := fz } false F = some ir65 := ⟨Try.f59, frzF, Try.func59, by kernel_rfl⟩
theorem chk66 : ∃ F fz, G.P.funcs[G.T 66]? = some F ∧ cFun { G with frz := fz } false F = some ir66 := ⟨Try.f60, frzF, Try.func60, by kernel_rfl⟩
theorem chk73 : ∃ F fz, G.P.funcs[G.T 73]? = some F ∧ cFun { G with frz := fz } false F = some ir73 := ⟨Try.f55, frzF, Try.func55, by kernel_rfl⟩
theorem chk77 : ∃ F fz, G.P.funcs[G.T 77]? = some F ∧ cFun { G with frz := fz } false F = some ir77 := ⟨Try.f51, frzF, Try.func51, by kernel_rfl⟩
theorem chk79 : ∃ F fz, G.P.funcs[G.T 79]? = some F ∧ cFun { G with frz := fz } false F = some ir79 := ⟨Try.f69, frzF, Try.func69, by kernel_rfl⟩
end Go.Proofs.Cp
