/- The functions, one by one (written by mkglobal.py). -/
import Derived.Test.YthamjdhggcmpgaaChk
set_option maxRecDepth 100000
set_option linter.unusedVariables false
namespace Go.Proofs.Cp
open Go
open Go.Proofs
theorem chk5 : ∃ F fz, G.P.funcs[G.T 5]? = some F ∧ cFun { G with frz := fz } false F = some ir5 := ⟨Try.f7, frzF, Try.func7, by kernel_rfl⟩
theorem chk11 : ∃ F fz, G.P.funcs[G.T 11]? = some F ∧ cFun { G with frz := fz } false F = some ir11 := ⟨Try.f13, frzF, Try.func13, by kernel_rfl⟩
theorem chk15 : ∃ F fz, G.P.funcs[G.T 15]? = some F ∧ cFun { G with frz := fz } false F = some ir15 := ⟨Try.f17, frzF, Try.func17, by kernel_rfl⟩
theorem chk16 : ∃ F fz, G.P.funcs[G.T 16]? = some F ∧ cFun { G with frz := fz } false F = some ir16 := ⟨Try.f18, frzF, Try.func18, by kernel_rfl⟩
theorem chk26 : ∃ F fz, G.P.funcs[G.T 26]? = some F ∧ cFun { G with frz := fz } false F = some ir26 := ⟨Try.f28, frzF, Try.func28, by kernel_rfl⟩
theorem chk27 : ∃ F fz, G.P.funcs[G.T 27]? = some F ∧ cFun { G with frz := fz } false F = some ir27 := ⟨Try.f29, frzF, Try.func29, by kernel_rfl⟩
theorem chk28 : ∃ F fz, G.P.funcs[G.T 28]? = some F ∧ cFun { G with frz := fz } false F = some ir28 := ⟨Try.f30, frzF, Try.func30, by kernel_rfl⟩
theorem chk29 : ∃ F fz, G.P.funcs[G.T 29]? = some F ∧ cFun { G with frz := fz } false F = some ir29 := ⟨Try.f31, frzF, Try.func31, by kernel_rfl⟩
theorem chk30 : ∃ F fz, G.P.funcs[G.T 30]? = some F ∧ cFun { G with frz := fz } false F = some ir30 := ⟨Try.f32, frzF, Try.func32, by kernel_rfl⟩
theorem chk31 : ∃ F fz, G.P.funcs[G.T 31]? = some F ∧ cFun { G with frz := fz } false F = some ir31 := ⟨Try.f33, frzF, Try.func33, by kernel_rfl⟩
theorem chk33 : ∃ F fz, G.P.funcs[G.T 33]? = some F ∧ cFun { G with frz := fz } false F = some ir33 := ⟨Try.f35, frzF, Try.func35, by kernel_rfl⟩
theorem chk35 : ∃ F fz, G.P.funcs[G.T 35]? = some F ∧ cFun { G with frz := fz } false F = some ir35 := ⟨Try.f37, frzF, Try.func37, by kernel_rfl⟩
theorem chk37 : ∃ F fz, G.P.funcs[G.T 37]? = some F ∧ cFun { G with frz := fz } false F = some ir37 := ⟨Try.f39, frzF, Try.func39, by kernel_rfl⟩
theorem chk39 : ∃ F fz, G.P.funcs[G.T 39]? = some F ∧ cFun { G with frz := fz } false F = some ir39 := ⟨Try.f41, frzF, Try.func41, by kernel_rfl⟩
theorem chk48 : ∃ F fz, G.P.funcs[G.T 48]? = some F ∧ cFun { G with frz := fz } false F = some ir48 := ⟨Try.f50, frzF, Try.func50, by kernel_rfl⟩
theorem chk50 : ∃ F fz, G.P.funcs[G.T 50]? = some F ∧ cFun { G with frz := fz } true F = some ir50 := ⟨Try.f52, frzF, Try.func52, by kernel_rfl⟩
theorem chk60 : ∃ F fz, G.P.funcs[G.T 60]? = some F ∧ cFun { G with frz := fz } false F = some ir60 := ⟨Try.f62, frzF, Try.func62, by kernel_rfl⟩
theorem chk61 : ∃ F fz, G.P.funcs[G.T 61]? = some F ∧ cFun { G with frz := fz } true F = some ir61 := ⟨Try.f63, frzF, Try.func63, by kernel_rfl⟩
theorem chk62 : ∃ F fz, G.P.funcs[G.T 62]? = some F ∧ cFun { G with frz := fz } true F = some ir62 := ⟨Try.f64, frzF, Try.func64, by kernel_rfl⟩
theorem chk63 : ∃ F fz, G.P.funcs[G.T 63]? = some F ∧ cFun { G with frz := fz } false F = some ir63 := ⟨Try.f65, frzF, Try.func65, by kernel_rfl⟩
theorem chk64 : ∃ F fz, G.P.funcs[G.T 64]? = some F ∧ cFun { G with frz := fz } false F = some ir64 := ⟨Try.f66, frzF, Try.func66, by kernel_rfl⟩
theorem chk65 : ∃ F fz, G.P.funcs[G.T 65]? = some F ∧ cFun { G with frz := fz } false F = some ir65 := ⟨Try.f67, frzF, Try.func67, by kernel_rfl⟩
theorem chk66 : ∃ F fz, G.P.funcs[G.T 66]? = some F ∧ cFun { G with frz := fz } false F = some ir66 := ⟨Try.f68, frzF, Try.func68, by kernel_rfl⟩
theorem chk67 : ∃ F fz, G.P.funcs[G.T 67]? = some F ∧ cFun { G with frz := fz } false F = some ir67 := ⟨Try.f69, frzF, Try.func69, by kernel_rfl⟩
theorem chk68 : ∃ F fz, G.P.funcs[G.T 68]? = some F ∧ cFun { G with frz := fz } false F = some ir68 := ⟨Try.f70, frzF, Try.func70, by kernel_rfl⟩
theorem chk69 : ∃ F fz, G.P.funcs[G.T 69]? = some F ∧ cFun { G with frz := fz } false F = some ir69 := ⟨Try.f71, frzF, Try.func71, by kernel_rfl⟩
theorem chk70 : ∃ F fz, G.P.funcs[G.T 70]? = some F ∧ cFun { G with frz := fz } false F = some ir70 := ⟨Try.f72, frzF, Try.func72, by kernel_rfl⟩
theorem chk71 : ∃ F fz, G.P.funcs[G.T 71]? = some F ∧ cFun { G with frz := fz } false F = some ir71 := ⟨Try.f73, frzF, Try.func73, by kernel_rfl⟩
theorem chk72 : ∃ F fz, G.P.funcs[G.T 72]? = some F ∧ cFun { G with frz := fz } false F = some ir72 := ⟨Try.f74, frzF, Try.func74, by kernel_rfl⟩
theorem chk73 : ∃ F fz, G.P.funcs[G.T 73]? = some F ∧ cFun { G with frz := fz } false F = some ir73 := ⟨Try.f75, frzF, Try.func75, by kernel_rfl⟩
theorem chk79 : ∃ F fz, G.P.funcs[G.T 79]? = some F ∧ cFun { G with frz := fz } false F = some ir79 := ⟨Try.f81, frzF, Try.func81, by kernel_rfl⟩
end Go.Proofs.Cp
