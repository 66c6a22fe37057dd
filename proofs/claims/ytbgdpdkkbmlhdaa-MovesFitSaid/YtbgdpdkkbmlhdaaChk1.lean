/- The functions, one by one (written by mkglobal.py). -/
import Derived.Test.YtbgdpdkkbmlhdaaChk
set_option maxRecDepth 100000
set_option linter.unusedVariables false
namespace Go.Proofs.Cp
open Go
open Go.Proofs
theorem chk59 : ∃ F fz, G.P.funcs[G.T 59]? = some F ∧ cFun { G with frz := fz } false F = some ir59 := ⟨Try.f50, frzF, Try.func50, by kernel_rfl⟩
theorem chk61 : ∃ F fz, G.P.funcs[G.T 61]? = some F ∧ cFun { G with frz := fz } true F = some ir61 := ⟨Try.f29, frzF, Try.func29, by kernel_rfl⟩
theorem chk62 : ∃ F fz, G.P.funcs[G.T 62]? = some F ∧ cFun { G with frz := fz } true F = some ir62 := ⟨Try.f30, frzF, Try.func30, by kernel_rfl⟩
theorem chk63 : ∃ F fz, G.P.funcs[G.T 63]? = some F ∧ cFun { G with frz := fz } false F = some ir63 := ⟨Try.f63, frzF, Try.func63, by kernel_rfl⟩
theorem chk64 : ∃ F fz, G.P.funcs[G.T 64]? = some F ∧ cFun { G with frz := fz } false F = some ir64 := ⟨Try.f64, frzF, Try.func64, by kernel_rfl⟩
theorem chk65 : ∃ F fz, G.P.funcs[G.T 65]? = some F ∧ cFun { G with frz := fz } false F = some ir65 := ⟨Try.f65, frzF, Try.func65, by kernel_rfl⟩
theorem chk66 : ∃ F fz, G.P.funcs[G.T 66]? = some F ∧ cFun { G with frz := fz } false F = some ir66 := ⟨Try.f66, frzF, Try.func66, by kernel_rfl⟩
theorem chk67 : ∃ F fz, G.P.funcs[G.T 67]? = some F ∧ cFun { G with frz := fz } false F = some ir67 := ⟨Try.f71, frzF, Try.func71, by kernel_rfl⟩
theorem chk68 : ∃ F fz, G.P.funcs[G.T 68]? = some F ∧ cFun { G with frz := fz } false F = some ir68 := ⟨Try.f72, frzF, Try.func72, by kernel_rfl⟩
theorem chk69 : ∃ F fz, G.P.funcs[G.T 69]? = some F ∧ cFun { G with frz := fz } false F = some ir69 := ⟨Try.f73, frzF, Try.func73, by kernel_rfl⟩
theorem chk73 : ∃ F fz, G.P.funcs[G.T 73]? = some F ∧ cFun { G with frz := fz } false F = some ir73 := ⟨Try.f59, frzF, Try.func59, by kernel_rfl⟩
theorem chk76 : ∃ F fz, G.P.funcs[G.T 76]? = some F ∧ cFun { G with frz := fz } false F = some ir76 := ⟨Try.f42, frzF, Try.func42, by kernel_rfl⟩
theorem chk77 : ∃ F fz, G.P.funcs[G.T 77]? = some F ∧ cFun { G with frz := fz } false F = some ir77 := ⟨Try.f67, frzF, Try.func67, by kernel_rfl⟩
theorem chk78 : ∃ F fz, G.P.funcs[G.T 78]? = some F ∧ cFun { G with frz := fz } true F = some ir78 := ⟨Try.f51, frzF, Try.func51, by kernel_rfl⟩
theorem chk79 : ∃ F fz, G.P.funcs[G.T 79]? = some F ∧ cFun { G with frz := fz } false F = some ir79 := ⟨Try.f70, frzF, Try.func70, by kernel_rfl⟩
theorem chk90 : ∃ F fz, G.P.funcs[G.T 90]? = some F ∧ cFun { G with frz := fz } false F = some ir90 := ⟨Try.f23, frzF, Try.func23, by kernel_rfl⟩
theorem chk91 : ∃ F fz, G.P.funcs[G.T 91]? = some F ∧ cFun { G with frz := fz } false F = some ir91 := ⟨Try.f54, frzF, Try.func54, by kernel_rfl⟩
theorem chk103 : ∃ F fz, G.P.funcs[G.T 103]? = some F ∧ cFun { G with frz := fz } false F = some ir103 := ⟨Try.f49, frzF, Try.func49, by kernel_rfl⟩
theorem chk104 : ∃ F fz, G.P.funcs[G.T 104]? = some F ∧ cFun { G with frz := fz } false F = some ir104 := ⟨Try.f61, frzF, Try.func61, by kernel_rfl⟩
theorem chk114 : ∃ F fz, G.P.funcs[G.T 114]? = some F ∧ cFun { G with frz := fz } false F = some ir114 := ⟨Try.f57, frzF, Try.func57, by kernel_rfl⟩
theorem chk115 : ∃ F fz, G.P.funcs[G.T 115]? = some F ∧ cFun { G with frz := fz } false F = some ir115 := ⟨Try.f69, frzF, Try.func69, by kernel_rfl⟩
end Go.Proofs.Cp
