/- The functions, one by one (written by mkglobal.py). -/
import Derived.Test.YtjgijnimbnielaaChk
set_option maxRecDepth 100000
set_option linter.unusedVariables false
namespace Go.Proofs.Cp
open Go
open Go.Proofs
theorem chk156 : ∃ F fz, G.P.funcs[G.T 156]? = some F ∧ cFun { G with frz := fz } false F = some ir156 := ⟨Try.f68, frzF, Try.func68, by kernel_rfl⟩
theorem chk157 : ∃ F fz, G.P.funcs[G.T 157]? = some F ∧ cFun { G with frz := fz } true F = some ir157 := ⟨Try.f70, frzF, Try.func70, by kernel_rfl⟩
theorem chk158 : ∃ F fz, G.P.funcs[G.T 158]? = some F ∧ cFun { G with frz := fz } true F = some ir158 := ⟨Try.f71, frzF, Try.func71, by kernel_rfl⟩
theorem chk159 : ∃ F fz, G.P.funcs[G.T 159]? = some F ∧ cFun { G with frz := fz } true F = some ir159 := ⟨Try.f72, frzF, Try.func72, by kernel_rfl⟩
theorem chk160 : ∃ F fz, G.P.funcs[G.T 160]? = some F ∧ cFun { G with frz := fz } true F = some ir160 := ⟨Try.f73, frzF, Try.func73, by kernel_rfl⟩
theorem chk161 : ∃ F fz, G.P.funcs[G.T 161]? = some F ∧ cFun { G with frz := fz } true F = some ir161 := ⟨Try.f74, frzF, Try.func74, by kernel_rfl⟩
theorem chk162 : ∃ F fz, G.P.funcs[G.T 162]? = some F ∧ cFun { G with frz := fz } true F = some ir162 := ⟨Try.f75, frzF, Try.func75, by kernel_rfl⟩
theorem chk163 : ∃ F fz, G.P.funcs[G.T 163]? = some F ∧ cFun { G with frz := fz } true F = some ir163 := ⟨Try.f76, frzF, Try.func76, by kernel_rfl⟩
theorem chk164 : ∃ F fz, G.P.funcs[G.T 164]? = some F ∧ cFun { G with frz := fz } true F = some ir164 := ⟨Try.f77, frzF, Try.func77, by kernel_rfl⟩
theorem chk165 : ∃ F fz, G.P.funcs[G.T 165]? = some F ∧ cFun { G with frz := fz } false F = some ir165 := ⟨Try.f78, frzF, Try.func78, by kernel_rfl⟩
theorem chk166 : ∃ F fz, G.P.funcs[G.T 166]? = some F ∧ cFun { G with frz := fz } false F = some ir166 := ⟨Try.f79, frzF, Try.func79, by kernel_rfl⟩
theorem chk167 : ∃ F fz, G.P.funcs[G.T 167]? = some F ∧ cFun { G with frz := fz } true F = some ir167 := ⟨Try.f80, frzF, Try.func80, by kernel_rfl⟩
theorem chk168 : ∃ F fz, G.P.funcs[G.T 168]? = some F ∧ cFun { G with frz := fz } false F = some ir168 := ⟨Try.f81, frzF, Try.func81, by kernel_rfl⟩
theorem chk169 : ∃ F fz, G.P.funcs[G.T 169]? = some F ∧ cFun { G with frz := fz } true F = some ir169 := ⟨Try.f82, frzF, Try.func82, by kernel_rfl⟩
theorem chk170 : ∃ F fz, G.P.funcs[G.T 170]? = some F ∧ cFun { G with frz := fz } true F = some ir170 := ⟨Try.f83, frzF, Try.func83, by kernel_rfl⟩
theorem chk171 : ∃ F fz, G.P.funcs[G.T 171]? = some F ∧ cFun { G with frz := fz } true F = some ir171 := ⟨Try.f84, frzF, Try.func84, by kernel_rfl⟩
theorem chk172 : ∃ F fz, G.P.funcs[G.T 172]? = some F ∧ cFun { G with frz := fz } true F = some ir172 := ⟨Try.f85, frzF, Try.func85, by kernel_rfl⟩
end Go.Proofs.Cp
