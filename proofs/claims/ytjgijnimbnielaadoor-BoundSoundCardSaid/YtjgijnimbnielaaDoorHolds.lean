/- The machine's program is the given one: all functions (written by mkglobal.py). -/
import Derived.Test.YtjgijnimbnielaaDoorChk0
import Derived.Test.YtjgijnimbnielaaDoorChk1
import Derived.Test.YtjgijnimbnielaaDoorChk2
set_option maxRecDepth 100000
set_option linter.unusedVariables false
namespace Go.Proofs.Cp
open Go
open Go.Proofs
theorem holds_tbl : ∀ p ∈ tblPP, ∃ F fz, G.P.funcs[G.T p.1]? = some F ∧ cFun { G with frz := fz } p.2.iso F = some p.2 := by
  simp only [tblPP, List.forall_mem_cons, List.not_mem_nil, false_implies, implies_true, and_true]
  exact ⟨chk11, chk12, chk13, chk14, chk15, chk16, chk17, chk19, chk21, chk23, chk25, chk28, chk30, chk37, chk39, chk40, chk41, chk47, chk48, chk49, chk50, chk51, chk52, chk53, chk54, chk55, chk56, chk57, chk59, chk61, chk62, chk63, chk64, chk65, chk66, chk73, chk76, chk77, chk79, chk88, chk90, chk93, chk97, chk103, chk105, chk110, chk113, chk114, chk116, chk117, chk118, chk119, chk120, chk121, chk122, chk123, chk124, chk125, chk126, chk127, chk128, chk129, chk130⟩
theorem holds : Holds G PP := fun f fn h => holds_tbl _ (lkp_mem h)
theorem mixed : G.P.follows .mixedOrders = true := by kernel_rfl
/-- What the machine answers, the model comes to. -/
theorem law_sound : ∀ k, CallSound G (mach PP (fun _ _ _ => none) k) := mach_sound mixed holds (fun _ _ _ _ _ h => by cases h) (fun _ _ _ _ _ _ h => by cases h)
end Go.Proofs.Cp
