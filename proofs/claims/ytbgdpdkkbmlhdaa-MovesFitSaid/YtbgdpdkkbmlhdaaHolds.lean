/- The machine's program is the given one: all functions (written by mkglobal.py). -/
import Derived.Test.YtbgdpdkkbmlhdaaChk0
import Derived.Test.YtbgdpdkkbmlhdaaChk1
import Derived.Test.YtbgdpdkkbmlhdaaChk2
set_option maxRecDepth 100000
set_option linter.unusedVariables false
namespace Go.Proofs.Cp
open Go
open Go.Proofs
theorem holds_tbl : ∀ p ∈ tblPP, ∃ F fz, G.P.funcs[G.T p.1]? = some F ∧ cFun { G with frz := fz } p.2.iso F = some p.2 := by
  simp only [tblPP, List.forall_mem_cons, List.not_mem_nil, false_implies, implies_true, and_true]
  exact ⟨chk11, chk14, chk15, chk16, chk25, chk28, chk30, chk31, chk37, chk39, chk40, chk41, chk48, chk49, chk50, chk51, chk52, chk53, chk56, chk57, chk58, chk59, chk61, chk62, chk63, chk64, chk65, chk66, chk67, chk68, chk69, chk73, chk76, chk77, chk78, chk79, chk90, chk91, chk103, chk104, chk114, chk115, chk126, chk218, chk220, chk225, chk226, chk227, chk228, chk229, chk230, chk232, chk234, chk236, chk237, chk238, chk239, chk240, chk241, chk242, chk244, chk245, chk246⟩
theorem holds : Holds G PP := fun f fn h => holds_tbl _ (lkp_mem h)
theorem mixed : G.P.follows .mixedOrders = true := by kernel_rfl
/-- What the machine answers, the model comes to. -/
theorem law_sound : ∀ k, CallSound G (mach PP (fun _ _ _ => none) k) := mach_sound mixed holds (fun _ _ _ _ _ h => by cases h) (fun _ _ _ _ _ _ h => by cases h)
end Go.Proofs.Cp
