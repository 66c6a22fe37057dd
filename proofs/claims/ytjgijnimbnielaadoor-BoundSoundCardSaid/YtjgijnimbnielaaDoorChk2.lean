/- The functions, one by one (written by mkglobal.py). -/
import Derived.Test.YtjgijnimbnielaaDoorChk
set_option maxRecDepth 100000
set_option linter.unusedVariables false
namespace Go.Proofs.Cp
open Go
open Go.Proofs
theorem chk97 : ∃ F fz, G.P.funcs[G.T 97]? = some F ∧ cFun { G with frz := fz } false F = some ir97 := ⟨Tryd.f24, frzF, Tryd.func24, by kernel_rfl⟩
theorem chk103 : ∃ F fz, G.P.funcs[G.T 103]? = some F ∧ cFun { G with frz := fz } false F = some ir103 := ⟨Tryd.f44, frzF, Tryd.func44, by kernel_rfl⟩
theorem chk105 : ∃ F fz, G.P.funcs[G.T 105]? = some F ∧ cFun { G with frz := fz } true F = some ir105 := ⟨Tryd.f47, frzF, Tryd.func47, by kernel_rfl⟩
theorem chk110 : ∃ F fz, G.P.funcs[G.T 110]? = some F ∧ cFun { G with frz := fz } true F = some ir110 := ⟨Tryd.f52, frzF, Tryd.func52, by kernel_rfl⟩
theorem chk113 : ∃ F fz, G.P.funcs[G.T 113]? = some F ∧ cFun { G with frz := fz } false F = some ir113 := ⟨Tryd.f55, frzF, Tryd.func55, by kernel_rfl⟩
theorem chk114 : ∃ F fz, G.P.funcs[G.T 114]? = some F ∧ cFun { G with frz := fz } false F = some ir114 := ⟨Tryd.f66, frzF, Tryd.func66, by kernel_rfl⟩
theorem chk116 : ∃ F fz, G.P.funcs[G.T 116]? = some F ∧ cFun { G with frz := fz } true F = some ir116 := ⟨Tryd.f69, frzF, Tryd.func69, by kernel_rfl⟩
theorem chk117 : ∃ F fz, G.P.funcs[G.T 117]? = some F ∧ cFun { G with frz := fz } false F = some ir117 := ⟨Tryd.f70, frzF, Tryd.func70, by kernel_rfl⟩
theorem chk118 : ∃ F fz, G.P.funcs[G.T 118]? = some F ∧ cFun { G with frz := fz } false F = some ir118 := ⟨Tryd.f71, frzF, Tryd.func71, by kernel_rfl⟩
theorem chk119 : ∃ F fz, G.P.funcs[G.T 119]? = some F ∧ cFun { G with frz := fz } true F = some ir119 := ⟨Tryd.f73, frzF, Tryd.func73, by kernel_rfl⟩
theorem chk120 : ∃ F fz, G.P.funcs[G.T 120]? = some F ∧ cFun { G with frz := fz } true F = some ir120 := ⟨Tryd.f74, frzF, Tryd.func74, by kernel_rfl⟩
theorem chk121 : ∃ F fz, G.P.funcs[G.T 121]? = some F ∧ cFun { G with frz := fz } false F = some ir121 := ⟨Tryd.f75, frzF, Tryd.func75, by kernel_rfl⟩
theorem chk122 : ∃ F fz, G.P.funcs[G.T 122]? = some F ∧ cFun { G with frz := fz } false F = some ir122 := ⟨Tryd.f77, frzF, Tryd.func77, by kernel_rfl⟩
theorem chk123 : ∃ F fz, G.P.funcs[G.T 123]? = some F ∧ cFun { G with frz := fz } true F = some ir123 := ⟨Tryd.f78, frzF, Tryd.func78, by kernel_rfl⟩
theorem chk124 : ∃ F fz, G.P.funcs[G.T 124]? = some F ∧ cFun { G with frz := fz } true F = some ir124 := ⟨Tryd.f79, frzF, Tryd.func79, by kernel_rfl⟩
theorem chk125 : ∃ F fz, G.P.funcs[G.T 125]? = some F ∧ cFun { G with frz := fz } true F = some ir125 := ⟨Tryd.f91, frzF, Tryd.func91, by kernel_rfl⟩
theorem chk126 : ∃ F fz, G.P.funcs[G.T 126]? = some F ∧ cFun { G with frz := fz } false F = some ir126 := ⟨Tryd.f92, frzF, Tryd.func92, by kernel_rfl⟩
theorem chk127 : ∃ F fz, G.P.funcs[G.T 127]? = some F ∧ cFun { G with frz := fz } true F = some ir127 := ⟨Tryd.f93, frzF, Tryd.func93, by kernel_rfl⟩
theorem chk128 : ∃ F fz, G.P.funcs[G.T 128]? = some F ∧ cFun { G with frz := fz } true F = some ir128 := ⟨Tryd.f94, frzF, Tryd.func94, by kernel_rfl⟩
theorem chk129 : ∃ F fz, G.P.funcs[G.T 129]? = some F ∧ cFun { G with frz := fz } true F = some ir129 := ⟨Tryd.f95, frzF, Tryd.func95, by kernel_rfl⟩
theorem chk130 : ∃ F fz, G.P.funcs[G.T 130]? = some F ∧ cFun { G with frz := fz } true F = some ir130 := ⟨Tryd.f96, frzF, Tryd.func96, by kernel_rfl⟩
end Go.Proofs.Cp
