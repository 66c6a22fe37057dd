/- The functions, one by one (written by mkglobal.py). -/
import Derived.Test.YtjgijnimbnielaaDoorChk
set_option maxRecDepth 100000
set_option linter.unusedVariables false
namespace Go.Proofs.Cp
open Go
open Go.Proofs
theorem chk51 : ∃ F fz, G.P.funcs[G.T 51]? = some F ∧ cFun { G with frz := fz } true F = some ir51 := ⟨Tryd.f41, frzF, Tryd.func41, by kernel_rfl⟩
theorem chk52 : ∃ F fz, G.P.funcs[G.T 52]? = some F ∧ cFun { G with frz := fz } false F = some ir52 := ⟨Tryd.f42, frzF, Tryd.func42, by kernel_rfl⟩
theorem chk53 : ∃ F fz, G.P.funcs[G.T 53]? = some F ∧ cFun { G with frz := fz } false F = some ir53 := ⟨Tryd.f43, frzF, Tryd.func43, by kernel_rfl⟩
theorem chk54 : ∃ F fz, G.P.funcs[G.T 54]? = some F ∧ cFun { G with frz := fz } false F = some ir54 := ⟨Tryd.f82, frzF, Tryd.func82, by kernel_rfl⟩
theorem chk55 : ∃ F fz, G.P.funcs[G.T 55]? = some F ∧ cFun { G with frz := fz } false F = some ir55 := ⟨Tryd.f72, frzF, Tryd.func72, by kernel_rfl⟩
theorem chk56 : ∃ F fz, G.P.funcs[G.T 56]? = some F ∧ cFun { G with frz := fz } false F = some ir56 := ⟨Tryd.f33, frzF, Tryd.func33, by kernel_rfl⟩
theorem chk57 : ∃ F fz, G.P.funcs[G.T 57]? = some F ∧ cFun { G with frz := fz } false F = some ir57 := ⟨Tryd.f63, frzF, Tryd.func63, by kernel_rfl⟩
theorem chk59 : ∃ F fz, G.P.funcs[G.T 59]? = some F ∧ cFun { G with frz := fz } false F = some ir59 := ⟨Tryd.f45, frzF, Tryd.func45, by kernel_rfl⟩
theorem chk61 : ∃ F fz, G.P.funcs[G.T 61]? = some F ∧ cFun { G with frz := fz } true F = some ir61 := ⟨Tryd.f61, frzF, Tryd.func61, by kernel_rfl⟩
theorem chk62 : ∃ F fz, G.P.funcs[G.T 62]? = some F ∧ cFun { G with frz := fz } true F = some ir62 := ⟨Tryd.f62, frzF, Tryd.func62, by kernel_rfl⟩
theorem chk63 : ∃ F fz, G.P.funcs[G.T 63]? = some F ∧ cFun { G with frz := fz } false F = some ir63 := ⟨Tryd.f83, frzF, Tryd.func83, by kernel_rfl⟩
theorem chk64 : ∃ F fz, G.P.funcs[G.T 64]? = some F ∧ cFun { G with frz := fz } false F = some ir64 := ⟨Tryd.f84, frzF, Tryd.func84, by kernel_rfl⟩
theorem chk65 : ∃ F fz, G.P.funcs[G.T 65]? = some F ∧ cFun { G with frz := fz } false F = some ir65 := ⟨Tryd.f85, frzF, Tryd.func85, by kernel_rfl⟩
theorem chk66 : ∃ F fz, G.P.funcs[G.T 66]? = some F ∧ cFun { G with frz := fz } false F = some ir66 := ⟨Tryd.f86, frzF, Tryd.func86, by kernel_rfl⟩
theorem chk73 : ∃ F fz, G.P.funcs[G.T 73]? = some F ∧ cFun { G with frz := fz } false F = some ir73 := ⟨Tryd.f98, frzF, Tryd.func98, by kernel_rfl⟩
theorem chk76 : ∃ F fz, G.P.funcs[G.T 76]? = some F ∧ cFun { G with frz := fz } false F = some ir76 := ⟨Tryd.f64, frzF, Tryd.func64, by kernel_rfl⟩
theorem chk77 : ∃ F fz, G.P.funcs[G.T 77]? = some F ∧ cFun { G with frz := fz } false F = some ir77 := ⟨Tryd.f87, frzF, Tryd.func87, by kernel_rfl⟩
theorem chk79 : ∃ F fz, G.P.funcs[G.T 79]? = some F ∧ cFun { G with frz := fz } false F = some ir79 := ⟨Tryd.f99, frzF, Tryd.func99, by kernel_rfl⟩
theorem chk88 : ∃ F fz, G.P.funcs[G.T 88]? = some F ∧ cFun { G with frz := fz } false F = some ir88 := ⟨Tryd.f10, (fun c => frzF c && ![14].contains c), Tryd.func10, by kernel_rfl⟩
theorem chk90 : ∃ F fz, G.P.funcs[G.T 90]? = some F ∧ cFun { G with frz := fz } false F = some ir90 := ⟨Tryd.f16, frzF, Tryd.func16, by kernel_rfl⟩
theorem chk93 : ∃ F fz, G.P.funcs[G.T 93]? = some F ∧ cFun { G with frz := fz } false F = some ir93 := ⟨Tryd.f19, frzF, Tryd.func19, by kernel_rfl⟩
end Go.Proofs.Cp
