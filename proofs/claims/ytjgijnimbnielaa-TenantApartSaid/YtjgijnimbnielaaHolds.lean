/- The machine's program is the given one: all functions (written by mkglobal.py). -/
import Derived.Test.YtjgijnimbnielaaChk0
import Derived.Test.YtjgijnimbnielaaChk1
import Derived.Test.YtjgijnimbnielaaChk2
set_option maxRecDepth 100000
set_option linter.unusedVariables false
namespace Go.Proofs.Cp
open Go
open Go.Proofs
theorem holds_tbl : ∀ p ∈ tblPP, ∃ F fz, G.P.funcs[G.T p.1]? = some F ∧ cFun { G with frz := fz } p.2.iso F = some p.2 := by
  simp only [tblPP, List.forall_mem_cons, List.not_mem_nil, false_implies, implies_true, and_true]
  exact ⟨chk11, chk15, chk16, chk28, chk30, chk37, chk39, chk48, chk50, chk55, chk61, chk62, chk63, chk64, chk65, chk66, chk73, chk77, chk79, chk103, chk114, chk126, chk137, chk138, chk139, chk141, chk143, chk144, chk145, chk146, chk147, chk148, chk149, chk151, chk152, chk153, chk154, chk155, chk156, chk157, chk158, chk159, chk160, chk161, chk162, chk163, chk164, chk165, chk166, chk167, chk168, chk169, chk170, chk171, chk172⟩
theorem holds : Holds G PP := fun f fn h => holds_tbl _ (lkp_mem h)
theorem mixed : G.P.follows .mixedOrders = true := by kernel_rfl
/-- What the machine answers, the model comes to. -/
theorem law_sound : ∀ k, CallSound G (mach PP (fun _ _ _ => none) k) := mach_sound mixed holds (fun _ _ _ _ _ h => by cases h) (fun _ _ _ _ _ _ h => by cases h)
end Go.Proofs.Cp
