/- The functions, one by one (written by mkglobal.py). -/
import Derived.Test.YthamjdhggcmpgaaChk
set_option maxRecDepth 100000
set_option linter.unusedVariables false
namespace Go.Proofs.Cp
open Go
open Go.Proofs
theorem chk55 : ∃ F fz, G.P.funcs[G.T 55]? = some F ∧ cFun { G with frz := fz } false F = some ir55 := ⟨Try.f57, frzF, Try.func57, by kernel_rfl⟩
theorem chk56 : ∃ F fz, G.P.funcs[G.T 56]? = some F ∧ cFun { G with frz := fz } false F = some ir56 := ⟨Try.f58, frzF, Try.func58, by kernel_rfl⟩
theorem chk57 : ∃ F fz, G.P.funcs[G.T 57]? = some F ∧ cFun { G with frz := fz } false F = some ir57 := ⟨Try.f59, frzF, Try.func59, by kernel_rfl⟩
theorem chk58 : ∃ F fz, G.P.funcs[G.T 58]? = some F ∧ cFun { G with frz := fz } false F = some ir58 := ⟨Try.f60, frzF, Try.func60, by kernel_rfl⟩
theorem chk59 : ∃ F fz, G.P.funcs[G.T 59]? = some F ∧ cFun { G with frz := fz } false F = some ir59 := ⟨Try.f61, frzF, Try.func61, by kernel_rfl⟩
theorem chk61 : ∃ F fz, G.P.funcs[G.T 61]? = some F ∧ cFun { G with frz := fz } true F = some ir61 := ⟨Try.f63, frzF, Try.func63, by kernel_rfl⟩
theorem chk62 : ∃ F fz, G.P.funcs[G.T 62]? = some F ∧ cFun { G with frz := fz } true F = some ir62 := ⟨Try.f64, frzF, Try.func64, by kernel_rfl⟩
theorem chk66 : ∃ F fz, G.P.funcs[G.T 66]? = some F ∧ cFun { G with frz := fz } false F = some ir66 := ⟨Try.f68, frzF, Try.func68, by kernel_rfl⟩
theorem chk73 : ∃ F fz, G.P.funcs[G.T 73]? = some F ∧ cFun { G with frz := fz } false F = some ir73 := ⟨Try.f75, frzF, Try.func75, by kernel_rfl⟩
theorem chk76 : ∃ F fz, G.P.funcs[G.T 76]? = some F ∧ cFun { G with frz := fz } false F = some ir76 := ⟨Try.f78, frzF, Try.func78, by kernel_rfl⟩
theorem chk77 : ∃ F fz, G.P.funcs[G.T 77]? = some F ∧ cFun { G with frz := fz } false F = some ir77 := ⟨Try.f79, frzF, Try.func79, by kernel_rfl⟩
theorem chk78 : ∃ F fz, G.P.funcs[G.T 78]? = some F ∧ cFun { G with frz := fz } true F = some ir78 := ⟨Try.f80, frzF, Try.func80, by kernel_rfl⟩
end Go.Proofs.Cp
