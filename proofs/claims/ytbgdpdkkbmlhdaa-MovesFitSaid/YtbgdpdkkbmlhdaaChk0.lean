/- The functions, one by one (written by mkglobal.py). -/
import Derived.Test.YtbgdpdkkbmlhdaaChk
set_option maxRecDepth 100000
set_option linter.unusedVariables false
namespace Go.Proofs.Cp
open Go
open Go.Proofs
theorem chk11 : ∃ F fz, G.P.funcs[G.T 11]? = some F ∧ cFun { G with frz := fz } false F = some ir11 := ⟨Try.f8, frzF, Try.func8, by kernel_rfl⟩
theorem chk14 : ∃ F fz, G.P.funcs[G.T 14]? = some F ∧ cFun { G with frz := fz } false F = some ir14 := ⟨Try.f11, frzF, Try.func11, by kernel_rfl⟩
theorem chk15 : ∃ F fz, G.P.funcs[G.T 15]? = some F ∧ cFun { G with frz := fz } false F = some ir15 := ⟨Try.f12, frzF, Try.func12, by kernel_rfl⟩
theorem chk16 : ∃ F fz, G.P.funcs[G.T 16]? = some F ∧ cFun { G with frz := fz } false F = some ir16 := ⟨Try.f35, frzF, Try.func35, by kernel_rfl⟩
theorem chk25 : ∃ F fz, G.P.funcs[G.T 25]? = some F ∧ cFun { G with frz := fz } false F = some ir25 := ⟨Try.f39, frzF, Try.func39, by kernel_rfl⟩
theorem chk28 : ∃ F fz, G.P.funcs[G.T 28]? = some F ∧ cFun { G with frz := fz } false F = some ir28 := ⟨Try.f10, frzF, Try.func10, by kernel_rfl⟩
theorem chk30 : ∃ F fz, G.P.funcs[G.T 30]? = some F ∧ cFun { G with frz := fz } false F = some ir30 := ⟨Try.f56, frzF, Try.func56, by kernel_rfl⟩
theorem chk31 : ∃ F fz, G.P.funcs[G.T 31]? = some F ∧ cFun { G with frz := fz } false F = some ir31 := ⟨Try.f68, frzF, Try.func68, by kernel_rfl⟩
theorem chk37 : ∃ F fz, G.P.funcs[G.T 37]? = some F ∧ cFun { G with frz := fz } false F = some ir37 := ⟨Try.f53, frzF, Try.func53, by kernel_rfl⟩
theorem chk39 : ∃ F fz, G.P.funcs[G.T 39]? = some F ∧ cFun { G with frz := fz } false F = some ir39 := ⟨Try.f60, frzF, Try.func60, by kernel_rfl⟩
theorem chk40 : ∃ F fz, G.P.funcs[G.T 40]? = some F ∧ cFun { G with frz := fz } false F = some ir40 := ⟨Try.f62, frzF, Try.func62, by kernel_rfl⟩
theorem chk41 : ∃ F fz, G.P.funcs[G.T 41]? = some F ∧ cFun { G with frz := fz } false F = some ir41 := ⟨Try.f55, frzF, Try.func55, by kernel_rfl⟩
theorem chk48 : ∃ F fz, G.P.funcs[G.T 48]? = some F ∧ cFun { G with frz := fz } false F = some ir48 := ⟨Try.f27, frzF, Try.func27, by kernel_rfl⟩
theorem chk49 : ∃ F fz, G.P.funcs[G.T 49]? = some F ∧ cFun { G with frz := fz } true F = some ir49 := ⟨Try.f31, frzF, Try.func31, by kernel_rfl⟩
theorem chk50 : ∃ F fz, G.P.funcs[G.T 50]? = some F ∧ cFun { G with frz := fz } true F = some ir50 := ⟨Try.f28, frzF, Try.func28, by kernel_rfl⟩
theorem chk51 : ∃ F fz, G.P.funcs[G.T 51]? = some F ∧ cFun { G with frz := fz } true F = some ir51 := ⟨Try.f32, frzF, Try.func32, by kernel_rfl⟩
theorem chk52 : ∃ F fz, G.P.funcs[G.T 52]? = some F ∧ cFun { G with frz := fz } false F = some ir52 := ⟨Try.f33, frzF, Try.func33, by kernel_rfl⟩
theorem chk53 : ∃ F fz, G.P.funcs[G.T 53]? = some F ∧ cFun { G with frz := fz } false F = some ir53 := ⟨Try.f34, frzF, Try.func34, by kernel_rfl⟩
theorem chk56 : ∃ F fz, G.P.funcs[G.T 56]? = some F ∧ cFun { G with frz := fz } false F = some ir56 := ⟨Try.f58, frzF, Try.func58, by kernel_rfl⟩
theorem chk57 : ∃ F fz, G.P.funcs[G.T 57]? = some F ∧ cFun { G with frz := fz } false F = some ir57 := ⟨Try.f52, frzF, Try.func52, by kernel_rfl⟩
theorem chk58 : ∃ F fz, G.P.funcs[G.T 58]? = some F ∧ cFun { G with frz := fz } false F = some ir58 := ⟨Try.f25, frzF, Try.func25, by kernel_rfl⟩
end Go.Proofs.Cp
