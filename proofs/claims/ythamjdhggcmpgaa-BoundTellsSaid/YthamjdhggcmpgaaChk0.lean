/- The functions, one by one (written by mkglobal.py). -/
import Derived.Test.YthamjdhggcmpgaaChk
set_option maxRecDepth 100000
set_option linter.unusedVariables false
namespace Go.Proofs.Cp
open Go
open Go.Proofs
theorem chk1 : ∃ F fz, G.P.funcs[G.T 1]? = some F ∧ cFun { G with frz := fz } false F = some ir1 := ⟨Try.f3, frzF, Try.func3, by kernel_rfl⟩
theorem chk11 : ∃ F fz, G.P.funcs[G.T 11]? = some F ∧ cFun { G with frz := fz } false F = some ir11 := ⟨Try.f13, frzF, Try.func13, by kernel_rfl⟩
theorem chk12 : ∃ F fz, G.P.funcs[G.T 12]? = some F ∧ cFun { G with frz := fz } false F = some ir12 := ⟨Try.f14, frzF, Try.func14, by kernel_rfl⟩
theorem chk13 : ∃ F fz, G.P.funcs[G.T 13]? = some F ∧ cFun { G with frz := fz } false F = some ir13 := ⟨Try.f15, frzF, Try.func15, by kernel_rfl⟩
theorem chk14 : ∃ F fz, G.P.funcs[G.T 14]? = some F ∧ cFun { G with frz := fz } false F = some ir14 := ⟨Try.f16, frzF, Try.func16, by kernel_rfl⟩
theorem chk15 : ∃ F fz, G.P.funcs[G.T 15]? = some F ∧ cFun { G with frz := fz } false F = some ir15 := ⟨Try.f17, frzF, Try.func17, by kernel_rfl⟩
theorem chk16 : ∃ F fz, G.P.funcs[G.T 16]? = some F ∧ cFun { G with frz := fz } false F = some ir16 := ⟨Try.f18, frzF, Try.func18, by kernel_rfl⟩
theorem chk17 : ∃ F fz, G.P.funcs[G.T 17]? = some F ∧ cFun { G with frz := fz } false F = some ir17 := ⟨Try.f19, frzF, Try.func19, by kernel_rfl⟩
theorem chk18 : ∃ F fz, G.P.funcs[G.T 18]? = some F ∧ cFun { G with frz := fz } false F = some ir18 := ⟨Try.f20, frzF, Try.func20, by kernel_rfl⟩
theorem chk19 : ∃ F fz, G.P.funcs[G.T 19]? = some F ∧ cFun { G with frz := fz } false F = some ir19 := ⟨Try.f21, frzF, Try.func21, by kernel_rfl⟩
theorem chk20 : ∃ F fz, G.P.funcs[G.T 20]? = some F ∧ cFun { G with frz := fz } false F = some ir20 := ⟨Try.f22, frzF, Try.func22, by kernel_rfl⟩
theorem chk21 : ∃ F fz, G.P.funcs[G.T 21]? = some F ∧ cFun { G with frz := fz } false F = some ir21 := ⟨Try.f23, frzF, Try.func23, by kernel_rfl⟩
theorem chk22 : ∃ F fz, G.P.funcs[G.T 22]? = some F ∧ cFun { G with frz := fz } false F = some ir22 := ⟨Try.f24, frzF, Try.func24, by kernel_rfl⟩
theorem chk23 : ∃ F fz, G.P.funcs[G.T 23]? = some F ∧ cFun { G with frz := fz } false F = some ir23 := ⟨Try.f25, frzF, Try.func25, by kernel_rfl⟩
end Go.Proofs.Cp
