/- The functions, one by one (written by mkglobal.py). -/
import Derived.Test.YthamjdhggcmpgaaChk
set_option maxRecDepth 100000
set_option linter.unusedVariables false
namespace Go.Proofs.Cp
open Go
open Go.Proofs
theorem chk25 : ∃ F fz, G.P.funcs[G.T 25]? = some F ∧ cFun { G with frz := fz } false F = some ir25 := ⟨Try.f27, frzF, Try.func27, by kernel_rfl⟩
theorem chk28 : ∃ F fz, G.P.funcs[G.T 28]? = some F ∧ cFun { G with frz := fz } false F = some ir28 := ⟨Try.f30, frzF, Try.func30, by kernel_rfl⟩
theorem chk37 : ∃ F fz, G.P.funcs[G.T 37]? = some F ∧ cFun { G with frz := fz } false F = some ir37 := ⟨Try.f39, frzF, Try.func39, by kernel_rfl⟩
theorem chk39 : ∃ F fz, G.P.funcs[G.T 39]? = some F ∧ cFun { G with frz := fz } false F = some ir39 := ⟨Try.f41, frzF, Try.func41, by kernel_rfl⟩
theorem chk40 : ∃ F fz, G.P.funcs[G.T 40]? = some F ∧ cFun { G with frz := fz } false F = some ir40 := ⟨Try.f42, frzF, Try.func42, by kernel_rfl⟩
theorem chk41 : ∃ F fz, G.P.funcs[G.T 41]? = some F ∧ cFun { G with frz := fz } false F = some ir41 := ⟨Try.f43, frzF, Try.func43, by kernel_rfl⟩
theorem chk47 : ∃ F fz, G.P.funcs[G.T 47]? = some F ∧ cFun { G with frz := fz } false F = some ir47 := ⟨Try.f49, frzF, Try.func49, by kernel_rfl⟩
theorem chk48 : ∃ F fz, G.P.funcs[G.T 48]? = some F ∧ cFun { G with frz := fz } false F = some ir48 := ⟨Try.f50, frzF, Try.func50, by kernel_rfl⟩
theorem chk49 : ∃ F fz, G.P.funcs[G.T 49]? = some F ∧ cFun { G with frz := fz } true F = some ir49 := ⟨Try.f51, frzF, Try.func51, by kernel_rfl⟩
theorem chk50 : ∃ F fz, G.P.funcs[G.T 50]? = some F ∧ cFun { G with frz := fz } true F = some ir50 := ⟨Try.f52, frzF, Try.func52, by kernel_rfl⟩
theorem chk51 : ∃ F fz, G.P.funcs[G.T 51]? = some F ∧ cFun { G with frz := fz } true F = some ir51 := ⟨Try.f53, frzF, Try.func53, by kernel_rfl⟩
theorem chk52 : ∃ F fz, G.P.funcs[G.T 52]? = some F ∧ cFun { G with frz := fz } false F = some ir52 := ⟨Try.f54, frzF, Try.func54, by kernel_rfl⟩
theorem chk53 : ∃ F fz, G.P.funcs[G.T 53]? = some F ∧ cFun { G with frz := fz } false F = some ir53 := ⟨Try.f55, frzF, Try.func55, by kernel_rfl⟩
theorem chk54 : ∃ F fz, G.P.funcs[G.T 54]? = some F ∧ cFun { G with frz := fz } false F = some ir54 := ⟨Try.f56, frzF, Try.func56, by kernel_rfl⟩
end Go.Proofs.Cp
