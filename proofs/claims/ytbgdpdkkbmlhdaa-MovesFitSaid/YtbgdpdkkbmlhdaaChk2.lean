/- The functions, one by one (written by mkglobal.py). -/
import Derived.Test.YtbgdpdkkbmlhdaaChk
set_option maxRecDepth 100000
set_option linter.unusedVariables false
namespace Go.Proofs.Cp
open Go
open Go.Proofs
theorem chk126 : ∃ F fz, G.P.funcs[G.T 126]? = some F ∧ cFun { G with frz := fz } false F = some ir126 := ⟨Try.f38, frzF, Try.func38, by kernel_rfl⟩
theorem chk218 : ∃ F fz, G.P.funcs[G.T 218]? = some F ∧ cFun { G with frz := fz } false F = some ir218 := ⟨Try.f20, frzF, Try.func20, by kernel_rfl⟩
theorem chk220 : ∃ F fz, G.P.funcs[G.T 220]? = some F ∧ cFun { G with frz := fz } false F = some ir220 := ⟨Try.f3, frzF, Try.func3, by kernel_rfl⟩
theorem chk225 : ∃ F fz, G.P.funcs[G.T 225]? = some F ∧ cFun { G with frz := fz } false F = some ir225 := ⟨Try.f9, frzF, Try.func9, by kernel_rfl⟩
theorem chk226 : ∃ F fz, G.P.funcs[G.T 226]? = some F ∧ cFun { G with frz := fz } false F = some ir226 := ⟨Try.f13, frzF, Try.func13, by kernel_rfl⟩
theorem chk227 : ∃ F fz, G.P.funcs[G.T 227]? = some F ∧ cFun { G with frz := fz } false F = some ir227 := ⟨Try.f14, frzF, Try.func14, by kernel_rfl⟩
theorem chk228 : ∃ F fz, G.P.funcs[G.T 228]? = some F ∧ cFun { G with frz := fz } false F = some ir228 := ⟨Try.f15, frzF, Try.func15, by kernel_rfl⟩
theorem chk229 : ∃ F fz, G.P.funcs[G.T 229]? = some F ∧ cFun { G with frz := fz } false F = some ir229 := ⟨Try.f16, frzF, Try.func16, by kernel_rfl⟩
theorem chk230 : ∃ F fz, G.P.funcs[G.T 230]? = some F ∧ cFun { G with frz := fz } false F = some ir230 := ⟨Try.f17, frzF, Try.func17, by kernel_rfl⟩
theorem chk232 : ∃ F fz, G.P.funcs[G.T 232]? = some F ∧ cFun { G with frz := fz } false F = some ir232 := ⟨Try.f19, (fun c => frzF c && ![244].contains c), Try.func19, by kernel_rfl⟩
theorem chk234 : ∃ F fz, G.P.funcs[G.T 234]? = some F ∧ cFun { G with frz := fz } false F = some ir234 := ⟨Try.f22, (fun c => frzF c && ![244].contains c), Try.func22, by kernel_rfl⟩
theorem chk236 : ∃ F fz, G.P.funcs[G.T 236]? = some F ∧ cFun { G with frz := fz } false F = some ir236 := ⟨Try.f26, frzF, Try.func26, by kernel_rfl⟩
theorem chk237 : ∃ F fz, G.P.funcs[G.T 237]? = some F ∧ cFun { G with frz := fz } false F = some ir237 := ⟨Try.f36, frzF, Try.func36, by kernel_rfl⟩
theorem chk238 : ∃ F fz, G.P.funcs[G.T 238]? = some F ∧ cFun { G with frz := fz } false F = some ir238 := ⟨Try.f37, frzF, Try.func37, by kernel_rfl⟩
theorem chk239 : ∃ F fz, G.P.funcs[G.T 239]? = some F ∧ cFun { G with frz := fz } false F = some ir239 := ⟨Try.f40, frzF, Try.func40, by kernel_rfl⟩
theorem chk240 : ∃ F fz, G.P.funcs[G.T 240]? = some F ∧ cFun { G with frz := fz } false F = some ir240 := ⟨Try.f41, frzF, Try.func41, by kernel_rfl⟩
theorem chk241 : ∃ F fz, G.P.funcs[G.T 241]? = some F ∧ cFun { G with frz := fz } false F = some ir241 := ⟨Try.f43, frzF, Try.func43, by kernel_rfl⟩
theorem chk242 : ∃ F fz, G.P.funcs[G.T 242]? = some F ∧ cFun { G with frz := fz } false F = some ir242 := ⟨Try.f44, frzF, Try.func44, by kernel_rfl⟩
theorem chk244 : ∃ F fz, G.P.funcs[G.T 244]? = some F ∧ cFun { G with frz := fz } false F = some ir244 := ⟨Try.f46, frzF, Try.func46, by kernel_rfl⟩
theorem chk245 : ∃ F fz, G.P.funcs[G.T 245]? = some F ∧ cFun { G with frz := fz } false F = some ir245 := ⟨Try.f47, frzF, Try.func47, by kernel_rfl⟩
theorem chk246 : ∃ F fz, G.P.funcs[G.T 246]? = some F ∧ cFun { G with frz := fz } false F = some ir246 := ⟨Try.f48, frzF, Try.func48, by kernel_rfl⟩
end Go.Proofs.Cp
