/-
  DERIVED. GIVEN WITH THE SEED: THE CARDS: each row of YtjgijnimbnielaaDoorRows.lean that lists a variable, with what it lists TIED to the program's text (the seventh form; the later family's looks); each row that meets fmt, with fmt's text TOLD by the authors' own Lean function (tested against real Go, not proved from fmt's source: count such statements apart). THE CARD IS WHAT COUNTS. Prove the row's statement (the work); the ties are given (YtjgijnimbnielaaDoorTie.lean); close each card by the builder's one call (the guide's Derived/Test/ToyasCard.lean, 'card_holds'). Laid BY PROGRAM, IN A SANDBOX (cutbox-door.mjs). By AI agents, Wed Nov 11 2026. No macro, syntax, notation, axiom, sorry.
-/
import Derived.Test.YtjgijnimbnielaaDoorRows
import GoSem.ClaimSeven
namespace Go.Proofs.YtjgijnimbnielaaDoor
namespace Rows

/-- THE TIED CARD OF 'cellplanelaw17.RulesFit'. -/
def rulesFitCard : Claim7 := { stood := { row := rulesFitRow, standIns := [], harness := (true, "36d85b296d592fdd8f1448b9892e6789b45c06a8b14e974ff3eb3a5a02a2e1b6"), looks := false }, kinds := [], alts := [], laidByText := true, laidKinds := [.data], laidTests := true, laidLooks := .later }
def RulesFitCardSaid : Prop := Claim7.holds Tryd.pinned (.plain (OpenSpec.ofChange rulesFitSpec)) rulesFitCard

/-- THE TIED CARD OF 'cellplanelaw17.RulesBroken'. -/
def rulesBrokenCard : Claim7 := { stood := { row := rulesBrokenRow, standIns := [], harness := (true, "36d85b296d592fdd8f1448b9892e6789b45c06a8b14e974ff3eb3a5a02a2e1b6"), looks := false }, kinds := [], alts := [], laidByText := true, laidKinds := [.data], laidTests := true, laidLooks := .later }
def RulesBrokenCardSaid : Prop := Claim7.holds Tryd.pinned (.plain (OpenSpec.ofChange rulesBrokenSpec)) rulesBrokenCard

/-- THE TIED CARD OF 'cellplanelaw17.RulesBooked'. -/
def rulesBookedCard : Claim7 := { stood := { row := rulesBookedRow, standIns := [], harness := (true, "36d85b296d592fdd8f1448b9892e6789b45c06a8b14e974ff3eb3a5a02a2e1b6"), looks := false }, kinds := [], alts := [], laidByText := true, laidKinds := [.data], laidTests := true, laidLooks := .later }
def RulesBookedCardSaid : Prop := Claim7.holds Tryd.pinned (.plain (OpenSpec.ofChange rulesBookedSpec)) rulesBookedCard

/-- THE TIED CARD OF 'cellplanelaw17.RulesStay'. -/
def rulesStayCard : Claim7 := { stood := { row := rulesStayRow, standIns := [], harness := (true, "36d85b296d592fdd8f1448b9892e6789b45c06a8b14e974ff3eb3a5a02a2e1b6"), looks := false }, kinds := [], alts := [], laidByText := true, laidKinds := [.data], laidTests := true, laidLooks := .later }
def RulesStayCardSaid : Prop := Claim7.holds Tryd.pinned (.plain (OpenSpec.ofChange rulesStaySpec)) rulesStayCard

/-- THE TIED CARD OF 'cellplanelaw17.RulesFull'. -/
def rulesFullCard : Claim7 := { stood := { row := rulesFullRow, standIns := [], harness := (true, "36d85b296d592fdd8f1448b9892e6789b45c06a8b14e974ff3eb3a5a02a2e1b6"), looks := false }, kinds := [], alts := [], laidByText := true, laidKinds := [.data], laidTests := true, laidLooks := .later }
def RulesFullCardSaid : Prop := Claim7.holds Tryd.pinned (.plain (OpenSpec.ofChange rulesFullSpec)) rulesFullCard

/-- THE TIED CARD OF 'cellplanelaw17.RulesLess'. -/
def rulesLessCard : Claim7 := { stood := { row := rulesLessRow, standIns := [], harness := (true, "36d85b296d592fdd8f1448b9892e6789b45c06a8b14e974ff3eb3a5a02a2e1b6"), looks := false }, kinds := [], alts := [], laidByText := true, laidKinds := [.data], laidTests := true, laidLooks := .later }
def RulesLessCardSaid : Prop := Claim7.holds Tryd.pinned (.plain (OpenSpec.ofChange rulesLessSpec)) rulesLessCard

/-- THE TIED CARD OF 'cellplanelaw17.RulesCapacity'. -/
def rulesCapacityCard : Claim7 := { stood := { row := rulesCapacityRow, standIns := [], harness := (true, "36d85b296d592fdd8f1448b9892e6789b45c06a8b14e974ff3eb3a5a02a2e1b6"), looks := false }, kinds := [], alts := [], laidByText := true, laidKinds := [.data], laidTests := true, laidLooks := .later }
def RulesCapacityCardSaid : Prop := Claim7.holds Tryd.pinned (.plain (OpenSpec.ofChange rulesCapacitySpec)) rulesCapacityCard

/-- THE TIED CARD OF 'cellplanelaw18.BoundSound'. -/
def boundSoundCard : Claim7 := { stood := { row := boundSoundRow, standIns := [], harness := (true, "36d85b296d592fdd8f1448b9892e6789b45c06a8b14e974ff3eb3a5a02a2e1b6"), looks := false }, kinds := [], alts := [], laidByText := true, laidKinds := [.data], laidTests := true, laidLooks := .later }
def BoundSoundCardSaid : Prop := Claim7.holds Tryd.pinned (.plain (OpenSpec.ofChange boundSoundSpec)) boundSoundCard

/-- THE SECOND FORM's CARD OF 'cellplanelaw17.RulesFit'. -/
def rulesFitUptoCard : Claim7 := { stood := { row := rulesFitUptoRow, standIns := [], harness := (true, "36d85b296d592fdd8f1448b9892e6789b45c06a8b14e974ff3eb3a5a02a2e1b6"), looks := false }, kinds := [], alts := [], laidByText := true, laidKinds := [.data], laidTests := true, laidLooks := .later }
def RulesFitUptoCardSaid : Prop := Claim7.holds Tryd.pinned (.plain (OpenSpec.upto rulesFitSpec)) rulesFitUptoCard

/-- THE SECOND FORM's CARD OF 'cellplanelaw17.RulesBroken'. -/
def rulesBrokenUptoCard : Claim7 := { stood := { row := rulesBrokenUptoRow, standIns := [], harness := (true, "36d85b296d592fdd8f1448b9892e6789b45c06a8b14e974ff3eb3a5a02a2e1b6"), looks := false }, kinds := [], alts := [], laidByText := true, laidKinds := [.data], laidTests := true, laidLooks := .later }
def RulesBrokenUptoCardSaid : Prop := Claim7.holds Tryd.pinned (.plain (OpenSpec.upto rulesBrokenSpec)) rulesBrokenUptoCard

/-- THE SECOND FORM's CARD OF 'cellplanelaw17.RulesBooked'. -/
def rulesBookedUptoCard : Claim7 := { stood := { row := rulesBookedUptoRow, standIns := [], harness := (true, "36d85b296d592fdd8f1448b9892e6789b45c06a8b14e974ff3eb3a5a02a2e1b6"), looks := false }, kinds := [], alts := [], laidByText := true, laidKinds := [.data], laidTests := true, laidLooks := .later }
def RulesBookedUptoCardSaid : Prop := Claim7.holds Tryd.pinned (.plain (OpenSpec.upto rulesBookedSpec)) rulesBookedUptoCard

/-- THE SECOND FORM's CARD OF 'cellplanelaw17.RulesStay'. -/
def rulesStayUptoCard : Claim7 := { stood := { row := rulesStayUptoRow, standIns := [], harness := (true, "36d85b296d592fdd8f1448b9892e6789b45c06a8b14e974ff3eb3a5a02a2e1b6"), looks := false }, kinds := [], alts := [], laidByText := true, laidKinds := [.data], laidTests := true, laidLooks := .later }
def RulesStayUptoCardSaid : Prop := Claim7.holds Tryd.pinned (.plain (OpenSpec.upto rulesStaySpec)) rulesStayUptoCard

/-- THE SECOND FORM's CARD OF 'cellplanelaw17.RulesFull'. -/
def rulesFullUptoCard : Claim7 := { stood := { row := rulesFullUptoRow, standIns := [], harness := (true, "36d85b296d592fdd8f1448b9892e6789b45c06a8b14e974ff3eb3a5a02a2e1b6"), looks := false }, kinds := [], alts := [], laidByText := true, laidKinds := [.data], laidTests := true, laidLooks := .later }
def RulesFullUptoCardSaid : Prop := Claim7.holds Tryd.pinned (.plain (OpenSpec.upto rulesFullSpec)) rulesFullUptoCard

/-- THE SECOND FORM's CARD OF 'cellplanelaw17.RulesLess'. -/
def rulesLessUptoCard : Claim7 := { stood := { row := rulesLessUptoRow, standIns := [], harness := (true, "36d85b296d592fdd8f1448b9892e6789b45c06a8b14e974ff3eb3a5a02a2e1b6"), looks := false }, kinds := [], alts := [], laidByText := true, laidKinds := [.data], laidTests := true, laidLooks := .later }
def RulesLessUptoCardSaid : Prop := Claim7.holds Tryd.pinned (.plain (OpenSpec.upto rulesLessSpec)) rulesLessUptoCard

/-- THE SECOND FORM's CARD OF 'cellplanelaw17.RulesCapacity'. -/
def rulesCapacityUptoCard : Claim7 := { stood := { row := rulesCapacityUptoRow, standIns := [], harness := (true, "36d85b296d592fdd8f1448b9892e6789b45c06a8b14e974ff3eb3a5a02a2e1b6"), looks := false }, kinds := [], alts := [], laidByText := true, laidKinds := [.data], laidTests := true, laidLooks := .later }
def RulesCapacityUptoCardSaid : Prop := Claim7.holds Tryd.pinned (.plain (OpenSpec.upto rulesCapacitySpec)) rulesCapacityUptoCard

/-- THE SECOND FORM's CARD OF 'cellplanelaw18.BoundSound'. -/
def boundSoundUptoCard : Claim7 := { stood := { row := boundSoundUptoRow, standIns := [], harness := (true, "36d85b296d592fdd8f1448b9892e6789b45c06a8b14e974ff3eb3a5a02a2e1b6"), looks := false }, kinds := [], alts := [], laidByText := true, laidKinds := [.data], laidTests := true, laidLooks := .later }
def BoundSoundUptoCardSaid : Prop := Claim7.holds Tryd.pinned (.plain (OpenSpec.upto boundSoundSpec)) boundSoundUptoCard
end Rows
end Go.Proofs.YtjgijnimbnielaaDoor
