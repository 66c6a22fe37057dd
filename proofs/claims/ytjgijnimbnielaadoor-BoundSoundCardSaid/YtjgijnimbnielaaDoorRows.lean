/-
  NARROWER THAN 'FOR EVERY INPUT', by the rows' own cells (each row's printed sentence says how): RulesFit: laid · RulesBroken: laid · RulesBooked: laid · RulesStay: laid · RulesFull: laid · RulesLess: laid · RulesCapacity: laid · BoundSound: laid.
  DERIVED. THE GIVEN ROWS OF THIS SEAT. 8 by the template 'for every input the law returns true; each argument reads behind the call as it read before'; 0 by the template 'total and deterministic' (their statements: YtjgijnimbnielaaDoorTotals.lean).
  GIVEN WITH THE SEED: the statements are not yours to turn. If you find one false, say at which input.
  Laid BY PROGRAM, IN A SANDBOX (cutbox-rows.mjs): the forced cells as the released guide's own fill.sh prints them over the translation fc66579c5fbcc8e4… (all of the seat's roots in one cut). By AI agents, Wed Nov 11 2026. No macro, syntax, notation, axiom, sorry.
-/
import Derived.Test.YtjgijnimbnielaaDoorChecked
import GoSem.Claim
import GoSem.ClaimJoined
import GoSem.ClaimMapViews
import Derived.JoinedTies
import Derived.KernelRfl
namespace Go.Proofs.YtjgijnimbnielaaDoor
/- THE CELL 'sum', in the pinned program and in every row, IS THE sha256 OF THE DUMP (.gsa) THAT YtjgijnimbnielaaDoorProg.lean LOADS. Nothing in Lean hashes anything: it is a label: what it is worth is what the hold of that sum in a sandbox is worth. -/
noncomputable def Tryd.pinned : Pinned := { name := "ytjgijnimbnielaadoor", sum := "fc66579c5fbcc8e4af3938743d6ceb907a51995d242288ffe87f807cff2ae3e6", checked := Tryd.checked }
namespace Rows
def none {H : Type} : Left H := { results := [], args := [] }

/- WHAT THE LISTED PACKAGE-LEVEL VARIABLES READ AS WHEN THE CALL BEGINS. Each datum BY PROGRAM (the guide's laid-datum.mjs) off the statement by which the dump's own 'gosem.cut.vars' lays the variable. In a bare row this is a premise. The card (YtjgijnimbnielaaDoorCards.lean) ties it to the program's text. -/
def laid_cellplane_rules_plain {H : Type} : DataW H := .agg [.lit (.int .i64 0), .lit (.int .i64 (-1)), .lit (.int .i64 (-1)), .lit (.int .i64 (-1)), .lit (.int .i64 (-1))]

/-- 'cellplanelaw17.RulesFit': WHATEVER THE INPUT: true; the input reads as it did. -/
def rulesFitSpec : ChangeSpec := { name := "rulesFit", fn := fun _ => fun
  | [d1, d2, d3, d4, d5] => { results := [.lit (.bool true)], args := [d1, d2, d3, d4, d5] }
  | _ => none }
def rulesFitRow : OpenClaim := { program := "ytjgijnimbnielaadoor", sum := "fc66579c5fbcc8e4af3938743d6ceb907a51995d242288ffe87f807cff2ae3e6", func := "cellplane/cellplanelaw17.RulesFit", spec := "rulesFit", unfollowed := true, recurses := true, named := ["cellplane/rules.plain"], apart := false, laid := [("cellplane/rules.plain", laid_cellplane_rules_plain)] }
def RulesFitSaid : Prop := rulesFitRow.holds Tryd.pinned (OpenSpec.ofChange rulesFitSpec)

/-- ITS FALSE NEIGHBOUR: 'it returns false'. Refute it at one input. -/
def rulesFitWrong : ChangeSpec := { name := "rulesFit", fn := fun _ => fun
  | [d1, d2, d3, d4, d5] => { results := [.lit (.bool false)], args := [d1, d2, d3, d4, d5] }
  | _ => none }
def RulesFitWrongFalsely : Prop := rulesFitRow.holds Tryd.pinned (OpenSpec.ofChange rulesFitWrong)

/-- 'cellplanelaw17.RulesBroken': WHATEVER THE INPUT: true; the input reads as it did. -/
def rulesBrokenSpec : ChangeSpec := { name := "rulesBroken", fn := fun _ => fun
  | [d1, d2, d3, d4] => { results := [.lit (.bool true)], args := [d1, d2, d3, d4] }
  | _ => none }
def rulesBrokenRow : OpenClaim := { program := "ytjgijnimbnielaadoor", sum := "fc66579c5fbcc8e4af3938743d6ceb907a51995d242288ffe87f807cff2ae3e6", func := "cellplane/cellplanelaw17.RulesBroken", spec := "rulesBroken", unfollowed := true, recurses := true, named := ["cellplane/rules.plain"], apart := false, laid := [("cellplane/rules.plain", laid_cellplane_rules_plain)] }
def RulesBrokenSaid : Prop := rulesBrokenRow.holds Tryd.pinned (OpenSpec.ofChange rulesBrokenSpec)

/-- ITS FALSE NEIGHBOUR: 'it returns false'. Refute it at one input. -/
def rulesBrokenWrong : ChangeSpec := { name := "rulesBroken", fn := fun _ => fun
  | [d1, d2, d3, d4] => { results := [.lit (.bool false)], args := [d1, d2, d3, d4] }
  | _ => none }
def RulesBrokenWrongFalsely : Prop := rulesBrokenRow.holds Tryd.pinned (OpenSpec.ofChange rulesBrokenWrong)

/-- 'cellplanelaw17.RulesBooked': WHATEVER THE INPUT: true; the input reads as it did. -/
def rulesBookedSpec : ChangeSpec := { name := "rulesBooked", fn := fun _ => fun
  | [d1, d2, d3, d4, d5] => { results := [.lit (.bool true)], args := [d1, d2, d3, d4, d5] }
  | _ => none }
def rulesBookedRow : OpenClaim := { program := "ytjgijnimbnielaadoor", sum := "fc66579c5fbcc8e4af3938743d6ceb907a51995d242288ffe87f807cff2ae3e6", func := "cellplane/cellplanelaw17.RulesBooked", spec := "rulesBooked", unfollowed := true, recurses := true, named := ["cellplane/rules.plain"], apart := false, laid := [("cellplane/rules.plain", laid_cellplane_rules_plain)] }
def RulesBookedSaid : Prop := rulesBookedRow.holds Tryd.pinned (OpenSpec.ofChange rulesBookedSpec)

/-- ITS FALSE NEIGHBOUR: 'it returns false'. Refute it at one input. -/
def rulesBookedWrong : ChangeSpec := { name := "rulesBooked", fn := fun _ => fun
  | [d1, d2, d3, d4, d5] => { results := [.lit (.bool false)], args := [d1, d2, d3, d4, d5] }
  | _ => none }
def RulesBookedWrongFalsely : Prop := rulesBookedRow.holds Tryd.pinned (OpenSpec.ofChange rulesBookedWrong)

/-- 'cellplanelaw17.RulesStay': WHATEVER THE INPUT: true; the input reads as it did. -/
def rulesStaySpec : ChangeSpec := { name := "rulesStay", fn := fun _ => fun
  | [d1, d2, d3, d4, d5] => { results := [.lit (.bool true)], args := [d1, d2, d3, d4, d5] }
  | _ => none }
def rulesStayRow : OpenClaim := { program := "ytjgijnimbnielaadoor", sum := "fc66579c5fbcc8e4af3938743d6ceb907a51995d242288ffe87f807cff2ae3e6", func := "cellplane/cellplanelaw17.RulesStay", spec := "rulesStay", unfollowed := true, recurses := true, named := ["cellplane/rules.plain"], apart := false, laid := [("cellplane/rules.plain", laid_cellplane_rules_plain)] }
def RulesStaySaid : Prop := rulesStayRow.holds Tryd.pinned (OpenSpec.ofChange rulesStaySpec)

/-- ITS FALSE NEIGHBOUR: 'it returns false'. Refute it at one input. -/
def rulesStayWrong : ChangeSpec := { name := "rulesStay", fn := fun _ => fun
  | [d1, d2, d3, d4, d5] => { results := [.lit (.bool false)], args := [d1, d2, d3, d4, d5] }
  | _ => none }
def RulesStayWrongFalsely : Prop := rulesStayRow.holds Tryd.pinned (OpenSpec.ofChange rulesStayWrong)

/-- 'cellplanelaw17.RulesFull': WHATEVER THE INPUT: true; the input reads as it did. -/
def rulesFullSpec : ChangeSpec := { name := "rulesFull", fn := fun _ => fun
  | [d1, d2, d3, d4] => { results := [.lit (.bool true)], args := [d1, d2, d3, d4] }
  | _ => none }
def rulesFullRow : OpenClaim := { program := "ytjgijnimbnielaadoor", sum := "fc66579c5fbcc8e4af3938743d6ceb907a51995d242288ffe87f807cff2ae3e6", func := "cellplane/cellplanelaw17.RulesFull", spec := "rulesFull", unfollowed := true, recurses := true, named := ["cellplane/rules.plain"], apart := false, laid := [("cellplane/rules.plain", laid_cellplane_rules_plain)] }
def RulesFullSaid : Prop := rulesFullRow.holds Tryd.pinned (OpenSpec.ofChange rulesFullSpec)

/-- ITS FALSE NEIGHBOUR: 'it returns false'. Refute it at one input. -/
def rulesFullWrong : ChangeSpec := { name := "rulesFull", fn := fun _ => fun
  | [d1, d2, d3, d4] => { results := [.lit (.bool false)], args := [d1, d2, d3, d4] }
  | _ => none }
def RulesFullWrongFalsely : Prop := rulesFullRow.holds Tryd.pinned (OpenSpec.ofChange rulesFullWrong)

/-- 'cellplanelaw17.RulesLess': WHATEVER THE INPUT: true; the input reads as it did. -/
def rulesLessSpec : ChangeSpec := { name := "rulesLess", fn := fun _ => fun
  | [d1, d2, d3, d4] => { results := [.lit (.bool true)], args := [d1, d2, d3, d4] }
  | _ => none }
def rulesLessRow : OpenClaim := { program := "ytjgijnimbnielaadoor", sum := "fc66579c5fbcc8e4af3938743d6ceb907a51995d242288ffe87f807cff2ae3e6", func := "cellplane/cellplanelaw17.RulesLess", spec := "rulesLess", unfollowed := true, recurses := true, named := ["cellplane/rules.plain"], apart := false, laid := [("cellplane/rules.plain", laid_cellplane_rules_plain)] }
def RulesLessSaid : Prop := rulesLessRow.holds Tryd.pinned (OpenSpec.ofChange rulesLessSpec)

/-- ITS FALSE NEIGHBOUR: 'it returns false'. Refute it at one input. -/
def rulesLessWrong : ChangeSpec := { name := "rulesLess", fn := fun _ => fun
  | [d1, d2, d3, d4] => { results := [.lit (.bool false)], args := [d1, d2, d3, d4] }
  | _ => none }
def RulesLessWrongFalsely : Prop := rulesLessRow.holds Tryd.pinned (OpenSpec.ofChange rulesLessWrong)

/-- 'cellplanelaw17.RulesCapacity': WHATEVER THE INPUT: true; the input reads as it did. -/
def rulesCapacitySpec : ChangeSpec := { name := "rulesCapacity", fn := fun _ => fun
  | [d1, d2, d3] => { results := [.lit (.bool true)], args := [d1, d2, d3] }
  | _ => none }
def rulesCapacityRow : OpenClaim := { program := "ytjgijnimbnielaadoor", sum := "fc66579c5fbcc8e4af3938743d6ceb907a51995d242288ffe87f807cff2ae3e6", func := "cellplane/cellplanelaw17.RulesCapacity", spec := "rulesCapacity", unfollowed := true, recurses := true, named := ["cellplane/rules.plain"], apart := false, laid := [("cellplane/rules.plain", laid_cellplane_rules_plain)] }
def RulesCapacitySaid : Prop := rulesCapacityRow.holds Tryd.pinned (OpenSpec.ofChange rulesCapacitySpec)

/-- ITS FALSE NEIGHBOUR: 'it returns false'. Refute it at one input. -/
def rulesCapacityWrong : ChangeSpec := { name := "rulesCapacity", fn := fun _ => fun
  | [d1, d2, d3] => { results := [.lit (.bool false)], args := [d1, d2, d3] }
  | _ => none }
def RulesCapacityWrongFalsely : Prop := rulesCapacityRow.holds Tryd.pinned (OpenSpec.ofChange rulesCapacityWrong)

/-- 'cellplanelaw18.BoundSound': WHATEVER THE INPUT: true; the input reads as it did. -/
def boundSoundSpec : ChangeSpec := { name := "boundSound", fn := fun _ => fun
  | [d1, d2, d3, d4] => { results := [.lit (.bool true)], args := [d1, d2, d3, d4] }
  | _ => none }
def boundSoundRow : OpenClaim := { program := "ytjgijnimbnielaadoor", sum := "fc66579c5fbcc8e4af3938743d6ceb907a51995d242288ffe87f807cff2ae3e6", func := "cellplane/cellplanelaw18.BoundSound", spec := "boundSound", unfollowed := true, recurses := true, named := ["cellplane/rules.plain"], apart := false, laid := [("cellplane/rules.plain", laid_cellplane_rules_plain)] }
def BoundSoundSaid : Prop := boundSoundRow.holds Tryd.pinned (OpenSpec.ofChange boundSoundSpec)

/-- ITS FALSE NEIGHBOUR: 'it returns false'. Refute it at one input. -/
def boundSoundWrong : ChangeSpec := { name := "boundSound", fn := fun _ => fun
  | [d1, d2, d3, d4] => { results := [.lit (.bool false)], args := [d1, d2, d3, d4] }
  | _ => none }
def BoundSoundWrongFalsely : Prop := boundSoundRow.holds Tryd.pinned (OpenSpec.ofChange boundSoundWrong)

/- THE SECOND FORM. 'bulk': how many values and letters a reading holds, each counted each time it is reached (what is shared counts as often as it is met; a slice's spare places count too). A statement '..UptoSaid' is the law's where the arguments, and the package variables that the reading takes, are together of bulk at most 1048576: NARROWER than '..Said'. Prove '..Said' where nothing that the law and all that it calls make is longer than what came in: it says more and counts as full. Else prove '..UptoSaid'. A law counts once. -/
mutual
def uptoBulk {H : Type} : DataW H → Nat
  | .lit (.string bytes) => bytes.length + 1
  | .lit _ => 1
  | .nil => 1
  | .ptr d => uptoBulk d + 1
  | .slice elems spare => uptoBulkAll elems + uptoBulkAll spare + 1
  | .agg parts => uptoBulkAll parts + 1
  | .iface _ d => uptoBulk d + 1
  | .map entries => uptoBulkEntries entries + 1
  | .held _ => 1
def uptoBulkAll {H : Type} : List (DataW H) → Nat
  | [] => 0
  | d :: r => uptoBulk d + uptoBulkAll r
def uptoBulkEntries {H : Type} : List (Lit × DataW H) → Nat
  | [] => 0
  | x :: r => uptoBulkEntry x + uptoBulkEntries r
def uptoBulkEntry {H : Type} : Lit × DataW H → Nat
  | (.string bytes, d) => bytes.length + uptoBulk d + 1
  | (_, d) => uptoBulk d + 1
 end
def uptoSmall : (H : Type) → List (DataW H) → Bool := fun _ ds => decide (uptoBulkAll ds ≤ 1048576)
def OpenSpec.upto (s : _root_.Go.ChangeSpec) : _root_.Go.OpenSpec := { _root_.Go.OpenSpec.ofChange s with cond := some uptoSmall }

/-- 'cellplanelaw17.RulesFit', WHERE WHAT IT READS IS OF BULK AT MOST 1048576: true; the input reads as it did. -/
def rulesFitUptoRow : OpenClaim := { program := "ytjgijnimbnielaadoor", sum := "fc66579c5fbcc8e4af3938743d6ceb907a51995d242288ffe87f807cff2ae3e6", func := "cellplane/cellplanelaw17.RulesFit", spec := "rulesFit", unfollowed := true, recurses := true, named := ["cellplane/rules.plain"], apart := false, laid := [("cellplane/rules.plain", laid_cellplane_rules_plain)], narrowed := true }
def RulesFitUptoSaid : Prop := rulesFitUptoRow.holds Tryd.pinned (OpenSpec.upto rulesFitSpec)

/-- 'cellplanelaw17.RulesBroken', WHERE WHAT IT READS IS OF BULK AT MOST 1048576: true; the input reads as it did. -/
def rulesBrokenUptoRow : OpenClaim := { program := "ytjgijnimbnielaadoor", sum := "fc66579c5fbcc8e4af3938743d6ceb907a51995d242288ffe87f807cff2ae3e6", func := "cellplane/cellplanelaw17.RulesBroken", spec := "rulesBroken", unfollowed := true, recurses := true, named := ["cellplane/rules.plain"], apart := false, laid := [("cellplane/rules.plain", laid_cellplane_rules_plain)], narrowed := true }
def RulesBrokenUptoSaid : Prop := rulesBrokenUptoRow.holds Tryd.pinned (OpenSpec.upto rulesBrokenSpec)

/-- 'cellplanelaw17.RulesBooked', WHERE WHAT IT READS IS OF BULK AT MOST 1048576: true; the input reads as it did. -/
def rulesBookedUptoRow : OpenClaim := { program := "ytjgijnimbnielaadoor", sum := "fc66579c5fbcc8e4af3938743d6ceb907a51995d242288ffe87f807cff2ae3e6", func := "cellplane/cellplanelaw17.RulesBooked", spec := "rulesBooked", unfollowed := true, recurses := true, named := ["cellplane/rules.plain"], apart := false, laid := [("cellplane/rules.plain", laid_cellplane_rules_plain)], narrowed := true }
def RulesBookedUptoSaid : Prop := rulesBookedUptoRow.holds Tryd.pinned (OpenSpec.upto rulesBookedSpec)

/-- 'cellplanelaw17.RulesStay', WHERE WHAT IT READS IS OF BULK AT MOST 1048576: true; the input reads as it did. -/
def rulesStayUptoRow : OpenClaim := { program := "ytjgijnimbnielaadoor", sum := "fc66579c5fbcc8e4af3938743d6ceb907a51995d242288ffe87f807cff2ae3e6", func := "cellplane/cellplanelaw17.RulesStay", spec := "rulesStay", unfollowed := true, recurses := true, named := ["cellplane/rules.plain"], apart := false, laid := [("cellplane/rules.plain", laid_cellplane_rules_plain)], narrowed := true }
def RulesStayUptoSaid : Prop := rulesStayUptoRow.holds Tryd.pinned (OpenSpec.upto rulesStaySpec)

/-- 'cellplanelaw17.RulesFull', WHERE WHAT IT READS IS OF BULK AT MOST 1048576: true; the input reads as it did. -/
def rulesFullUptoRow : OpenClaim := { program := "ytjgijnimbnielaadoor", sum := "fc66579c5fbcc8e4af3938743d6ceb907a51995d242288ffe87f807cff2ae3e6", func := "cellplane/cellplanelaw17.RulesFull", spec := "rulesFull", unfollowed := true, recurses := true, named := ["cellplane/rules.plain"], apart := false, laid := [("cellplane/rules.plain", laid_cellplane_rules_plain)], narrowed := true }
def RulesFullUptoSaid : Prop := rulesFullUptoRow.holds Tryd.pinned (OpenSpec.upto rulesFullSpec)

/-- 'cellplanelaw17.RulesLess', WHERE WHAT IT READS IS OF BULK AT MOST 1048576: true; the input reads as it did. -/
def rulesLessUptoRow : OpenClaim := { program := "ytjgijnimbnielaadoor", sum := "fc66579c5fbcc8e4af3938743d6ceb907a51995d242288ffe87f807cff2ae3e6", func := "cellplane/cellplanelaw17.RulesLess", spec := "rulesLess", unfollowed := true, recurses := true, named := ["cellplane/rules.plain"], apart := false, laid := [("cellplane/rules.plain", laid_cellplane_rules_plain)], narrowed := true }
def RulesLessUptoSaid : Prop := rulesLessUptoRow.holds Tryd.pinned (OpenSpec.upto rulesLessSpec)

/-- 'cellplanelaw17.RulesCapacity', WHERE WHAT IT READS IS OF BULK AT MOST 1048576: true; the input reads as it did. -/
def rulesCapacityUptoRow : OpenClaim := { program := "ytjgijnimbnielaadoor", sum := "fc66579c5fbcc8e4af3938743d6ceb907a51995d242288ffe87f807cff2ae3e6", func := "cellplane/cellplanelaw17.RulesCapacity", spec := "rulesCapacity", unfollowed := true, recurses := true, named := ["cellplane/rules.plain"], apart := false, laid := [("cellplane/rules.plain", laid_cellplane_rules_plain)], narrowed := true }
def RulesCapacityUptoSaid : Prop := rulesCapacityUptoRow.holds Tryd.pinned (OpenSpec.upto rulesCapacitySpec)

/-- 'cellplanelaw18.BoundSound', WHERE WHAT IT READS IS OF BULK AT MOST 1048576: true; the input reads as it did. -/
def boundSoundUptoRow : OpenClaim := { program := "ytjgijnimbnielaadoor", sum := "fc66579c5fbcc8e4af3938743d6ceb907a51995d242288ffe87f807cff2ae3e6", func := "cellplane/cellplanelaw18.BoundSound", spec := "boundSound", unfollowed := true, recurses := true, named := ["cellplane/rules.plain"], apart := false, laid := [("cellplane/rules.plain", laid_cellplane_rules_plain)], narrowed := true }
def BoundSoundUptoSaid : Prop := boundSoundUptoRow.holds Tryd.pinned (OpenSpec.upto boundSoundSpec)

end Rows
end Go.Proofs.YtjgijnimbnielaaDoor
