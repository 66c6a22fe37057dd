/- The functions, one by one (written by mkglobal.py). -/
import Derived.Test.YthamjdhggcmpgaaChk
set_option maxRecDepth 100000
set_option linter.unusedVariables false
namespace Go.Proofs.Cp
open Go
open Go.Proofs
theorem chk4 : ∃ F fz, G.P.funcs[G.T 4]? = some F ∧ cFun { G with frz := fz } false F = some ir4 := ⟨Try.f6, frzF, Try.func6, by kernel_rfl⟩
theorem chk11 : ∃ F fz, G.P.funcs[G.T 11]? = some F ∧ cFun { G with frz := fz } false F = some ir11 := ⟨Try.f13, frzF, Try.func13, by kernel_rfl⟩
theorem chk12 : ∃ F fz, G.P.funcs[G.T 12]? = some F ∧ cFun { G with frz := fz } false F = some ir12 := ⟨Try.f14, frzF, Try.func14, by kernel_rfl⟩
theorem chk13 : ∃ F fz, G.P.funcs[G.T 13]? = some F ∧ cFun { G with frz := fz } false F = some ir13 := ⟨Try.f15, frzF, Try.func15, by kernel_rfl⟩
theorem chk14 : ∃ F fz, G.P.funcs[G.T 14]? = some F ∧ cFun { G with frz := fz } false F = some ir14 := ⟨Try.f16, frzF, Try.func16, by kernel_rfl⟩
theorem chk15 : ∃ F fz, G.P.funcs[G.T 15]? = some F ∧ cFun { G with frz := fz } false F = some ir15 := ⟨Try.f17, frzF, Try.func17, by kernel_rfl⟩
theorem chk16 : ∃ F fz, G.P.funcs[G.T 16]? = some F ∧ cFun { G with frz := fz } false F = some ir16 := ⟨Try.f18, frzF, Try.func18, by kernel_rfl⟩
theorem chk17 : ∃ F fz, G.P.funcs[G.T 17]? = some F ∧ cFun { G with frz := fz } false F = some ir17 := ⟨Try.f19, frzF, Try.func19, by kernel_rfl⟩
theorem chk19 : ∃ F fz, G.P.funcs[G.T 19]? = some F ∧ cFun { G with frz := fz } false F = some ir19 := ⟨Try.f21, frzF, Try.func21, by kernel_rfl⟩
theorem chk21 : ∃ F fz, G.P.funcs[G.T 21]? = some F ∧ cFun { G with frz := fz } false F = some ir21 := ⟨Try.f23, frzF, Try.func23, by kernel_rfl⟩
theorem chk23 : ∃ F fz, G.P.funcs[G.T 23]? = some F ∧ cFun { G with frz := fz } false F = some ir23 := ⟨Try.f25, frzF, Try.func25, by kernel_rfl⟩
theorem chk25 : ∃ F fz, G.P.funcs[G.T 25]? = some F ∧ cFun { G with frz := fz } false F = some ir25 := ⟨Try.f27, frzF, Try.func27, by kernel_rfl⟩
theorem chk28 : ∃ F fz, G.P.funcs[G.T 28]? = some F ∧ cFun { G with frz := fz } false F = some ir28 := ⟨Try.f30, frzF, Try.func30, by kernel_rfl⟩
theorem chk37 : ∃ F fz, G.P.funcs[G.T 37]? = some F ∧ cFun { G with frz := fz } false F = some ir37 := ⟨Try.f39, frzF, Try.func39, by kernel_rfl⟩
theorem chk39 : ∃ F fz, G.P.funcs[G.T 39]? = some F ∧ cFun { G with frz := fz } false F = some ir39 := ⟨Try.f41, frzF, Try.func41, by kernel_rfl⟩
theorem chk40 : ∃ F fz, G.P.funcs[G.T 40]? = some F ∧ cFun { G with frz := fz } false F = some ir40 := ⟨Try.f42, frzF, Try.func42, by kernel_rfl⟩
theorem chk41 : ∃ F fz, G.P.funcs[G.T 41]? = some F ∧ cFun { G with frz := fz } false F = some ir41 := ⟨Try.f43, frzF, Try.func43, by kernel_rfl⟩
theorem chk47 : ∃ F fz, G.P.funcs[G.T 47]? = some F ∧ cFun { G with frz := fz } false F = some ir47 := ⟨Try.f49, frzF, Try.func49, by kernel_rfl⟩
theorem chk48 : ∃ F fz, G.P.funcs[G.T 48]? = some F ∧ cFun { G with frz := fz } false F = some ir48 := ⟨Try.f50, frzF, Try.func50, by kernel_rfl⟩
theorem chk49 : ∃ F fz, G.P.funcs[G.T 49]? = some F ∧ cFun { G with frz := fz } true F = some ir49 := ⟨Try.f51, frzF, Try.func51, by kernel_rfl⟩
theorem chk50 : ∃ F fz, G.P.funcs[G.T 50]? = some F ∧ cFun { G with frz := fz } true F = some ir50 := ⟨Try.f52, frzF, Try.func52, by kernel_rfl⟩
theorem chk51 : ∃ F fz, G.P.funcs[G.T 51]? = some F ∧ cFun { G with frz := fz } true F = some ir51 := ⟨Try.f53, frzF, Try.func53, by kernel_rfl⟩
theorem chk52 : ∃ F fz, G.P.funcs[G.T 52]? = some F ∧ cFun { G with frz := fz } false F = some ir52 := ⟨Try.f54, frzF, Try.func54, by kernel_rfl⟩
theorem chk53 : ∃ F fz, G.P.funcs[G.T 53]? = some F ∧ cFun { G with frz := fz } false F = some ir53 := ⟨Try.f55, frzF, Try.func55, by kernel_rfl⟩
theorem chk54 : ∃ F fz, G.P.funcs[G.T 54]? = some F ∧ cFun { G with frz := fz } false F = some ir54 := ⟨Try.f56, frzF, Try.func56, by kernel_rfl⟩
theorem chk55 : ∃ F fz, G.P.funcs[G.T 55]? = some F ∧ cFun { G with frz := fz } false F = some ir55 := ⟨Try.f57, frzF, Try.func57, by kernel_rfl⟩
theorem chk56 : ∃ F fz, G.P.funcs[G.T 56]? = some F ∧ cFun { G with frz := fz } false F = some ir56 := ⟨Try.f58, frzF, Try.func58, by kernel_rfl⟩
theorem chk57 : ∃ F fz, G.P.funcs[G.T 57]? = some F ∧ cFun { G with frz := fz } false F = some ir57 := ⟨Try.f59, frzF, Try.func59, by kernel_rfl⟩
theorem chk59 : ∃ F fz, G.P.funcs[G.T 59]? = some F ∧ cFun { G with frz := fz } false F = some ir59 := ⟨Try.f61, frzF, Try.func61, by kernel_rfl⟩
theorem chk61 : ∃ F fz, G.P.funcs[G.T 61]? = some F ∧ cFun { G with frz := fz } true F = some ir61 := ⟨Try.f63, frzF, Try.func63, by kernel_rfl⟩
theorem chk62 : ∃ F fz, G.P.funcs[G.T 62]? = some F ∧ cFun { G with frz := fz } true F = some ir62 := ⟨Try.f64, frzF, Try.func64, by kernel_rfl⟩
theorem chk66 : ∃ F fz, G.P.funcs[G.T 66]? = some F ∧ cFun { G with frz := fz } false F = some ir66 := ⟨Try.f68, frzF, Try.func68, by kernel_rfl⟩
theorem chk73 : ∃ F fz, G.P.funcs[G.T 73]? = some F ∧ cFun { G with frz := fz } false F = some ir73 := ⟨Try.f75, frzF, Try.func75, by kernel_rfl⟩
theorem chk76 : ∃ F fz, G.P.funcs[G.T 76]? = some F ∧ cFun { G with frz := fz } false F = some ir76 := ⟨Try.f78, frzF, Try.func78, by kernel_rfl⟩
theorem chk77 : ∃ F fz, G.P.funcs[G.T 77]? = some F ∧ cFun { G with frz := fz } false F = some ir77 := ⟨Try.f79, frzF, Try.func79, by kernel_rfl⟩
end Go.Proofs.Cp
