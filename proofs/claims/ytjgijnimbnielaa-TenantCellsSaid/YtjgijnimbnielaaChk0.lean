/- The functions, one by one (written by mkglobal.py). -/
import Derived.Test.YtjgijnimbnielaaChk
set_option maxRecDepth 100000
set_option linter.unusedVariables false
namespace Go.Proofs.Cp
open Go
open Go.Proofs
theorem chk11 : ∃ F fz, G.P.funcs[G.T 11]? = some F ∧ cFun { G with frz := fz } false F = some ir11 := ⟨Try.f11, frzF, Try.func11, by kernel_rfl⟩
theorem chk15 : ∃ F fz, G.P.funcs[G.T 15]? = some F ∧ cFun { G with frz := fz } false F = some ir15 := ⟨Try.f17, frzF, Try.func17, by kernel_rfl⟩
theorem chk16 : ∃ F fz, G.P.funcs[G.T 16]? = some F ∧ cFun { G with frz := fz } false F = some ir16 := ⟨Try.f25, frzF, Try.func25, by kernel_rfl⟩
theorem chk28 : ∃ F fz, G.P.funcs[G.T 28]? = some F ∧ cFun { G with frz := fz } false F = some ir28 := ⟨Try.f13, frzF, Try.func13, by kernel_rfl⟩
theorem chk30 : ∃ F fz, G.P.funcs[G.T 30]? = some F ∧ cFun { G with frz := fz } false F = some ir30 := ⟨Try.f40, frzF, Try.func40, by kernel_rfl⟩
theorem chk32 : ∃ F fz, G.P.funcs[G.T 32]? = some F ∧ cFun { G with frz := fz } false F = some ir32 := ⟨Try.f18, frzF, Try.func18, by kernel_rfl⟩
theorem chk37 : ∃ F fz, G.P.funcs[G.T 37]? = some F ∧ cFun { G with frz := fz } false F = some ir37 := ⟨Try.f34, frzF, Try.func34, by kernel_rfl⟩
theorem chk39 : ∃ F fz, G.P.funcs[G.T 39]? = some F ∧ cFun { G with frz := fz } false F = some ir39 := ⟨Try.f56, frzF, Try.func56, by kernel_rfl⟩
theorem chk40 : ∃ F fz, G.P.funcs[G.T 40]? = some F ∧ cFun { G with frz := fz } false F = some ir40 := ⟨Try.f67, frzF, Try.func67, by kernel_rfl⟩
theorem chk41 : ∃ F fz, G.P.funcs[G.T 41]? = some F ∧ cFun { G with frz := fz } false F = some ir41 := ⟨Try.f52, frzF, Try.func52, by kernel_rfl⟩
theorem chk48 : ∃ F fz, G.P.funcs[G.T 48]? = some F ∧ cFun { G with frz := fz } false F = some ir48 := ⟨Try.f36, frzF, Try.func36, by kernel_rfl⟩
theorem chk50 : ∃ F fz, G.P.funcs[G.T 50]? = some F ∧ cFun { G with frz := fz } true F = some ir50 := ⟨Try.f37, frzF, Try.func37, by kernel_rfl⟩
theorem chk52 : ∃ F fz, G.P.funcs[G.T 52]? = some F ∧ cFun { G with frz := fz } false F = some ir52 := ⟨Try.f31, frzF, Try.func31, by kernel_rfl⟩
theorem chk53 : ∃ F fz, G.P.funcs[G.T 53]? = some F ∧ cFun { G with frz := fz } false F = some ir53 := ⟨Try.f33, frzF, Try.func33, by kernel_rfl⟩
theorem chk55 : ∃ F fz, G.P.funcs[G.T 55]? = some F ∧ cFun { G with frz := fz } false F = some ir55 := ⟨Try.f27, frzF, Try.func27, by kernel_rfl⟩
theorem chk56 : ∃ F fz, G.P.funcs[G.T 56]? = some F ∧ cFun { G with frz := fz } false F = some ir56 := ⟨Try.f23, frzF, Try.func23, by kernel_rfl⟩
theorem chk57 : ∃ F fz, G.P.funcs[G.T 57]? = some F ∧ cFun { G with frz := fz } false F = some ir57 := ⟨Try.f28, frzF, Try.func28, by kernel_rfl⟩
theorem chk61 : ∃ F fz, G.P.funcs[G.T 61]? = some F ∧ cFun { G with frz := fz } true F = some ir61 := ⟨Try.f38, frzF, Try.func38, by kernel_rfl⟩
theorem chk62 : ∃ F fz, G.P.funcs[G.T 62]? = some F ∧ cFun { G with frz := fz } true F = some ir62 := ⟨Try.f39, frzF, Try.func39, by kernel_rfl⟩
theorem chk63 : ∃ F fz, G.P.funcs[G.T 63]? = some F ∧ cFun { G with frz := fz } false F = some ir63 := ⟨Try.f57, frzF, Try.func57, by kernel_rfl⟩
theorem chk64 : ∃ F fz, G.P.funcs[G.T 64]? = some F ∧ cFun { G with frz := fz } false F = some ir64 := ⟨Try.f58, frzF, Try.func58, by kernel_rfl⟩
end Go.Proofs.Cp
