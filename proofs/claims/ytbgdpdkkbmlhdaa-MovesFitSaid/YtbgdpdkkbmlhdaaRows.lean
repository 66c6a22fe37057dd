/-
  No cell of these rows narrows 'for every input' (looked for: loops, veiled, ifaces, maps, wideKeys, modest, calm, conditions, laid).
  DERIVED. THE GIVEN ROWS OF THIS SEAT. 5 by the template 'for every input the law returns true; each argument reads behind the call as it read before'; 0 by the template 'total and deterministic' (their statements: YtbgdpdkkbmlhdaaTotals.lean).
  GIVEN WITH THE SEED: the statements are not yours to turn. If you find one false, say at which input.
  Laid BY PROGRAM, IN A SANDBOX (cutbox-rows.mjs): the forced cells as the released guide's own fill.sh prints them over the translation 6c29ab530e37b2dc… (all of the seat's roots in one cut). By AI agents, Wed Nov 11 2026. No macro, syntax, notation, axiom, sorry.
-/
import Derived.Test.YtbgdpdkkbmlhdaaChecked
import GoSem.Claim
import GoSem.ClaimJoined
import GoSem.ClaimMapViews
import Derived.JoinedTies
import Derived.KernelRfl
namespace Go.Proofs.Ytbgdpdkkbmlhdaa
/- THE CELL 'sum', in the pinned program and in every row, IS THE sha256 OF THE DUMP (.gsa) THAT YtbgdpdkkbmlhdaaProg.lean LOADS. Nothing in Lean hashes anything: it is a label: what it is worth is what the hold of that sum in a sandbox is worth. -/
noncomputable def Try.pinned : Pinned := { name := "ytbgdpdkkbmlhdaa", sum := "6c29ab530e37b2dcafe251f9c02d26de6629c991be34ac6065f69690ab63d7fe", checked := Try.checked }
namespace Rows
def none {H : Type} : Left H := { results := [], args := [] }

/-- 'cellplanelaw21.MovesFit': WHATEVER THE INPUT: true; the input reads as it did. -/
def movesFitSpec : ChangeSpec := { name := "movesFit", fn := fun _ => fun
  | [d1, d2, d3, d4, d5] => { results := [.lit (.bool true)], args := [d1, d2, d3, d4, d5] }
  | _ => none }
def movesFitRow : OpenClaim := { program := "ytbgdpdkkbmlhdaa", sum := "6c29ab530e37b2dcafe251f9c02d26de6629c991be34ac6065f69690ab63d7fe", func := "cellplane/cellplanelaw21.MovesFit", spec := "movesFit", unfollowed := true, recurses := true, apart := false }
def MovesFitSaid : Prop := movesFitRow.holds Try.pinned (OpenSpec.ofChange movesFitSpec)

/-- ITS FALSE NEIGHBOUR: 'it returns false'. Refute it at one input. -/
def movesFitWrong : ChangeSpec := { name := "movesFit", fn := fun _ => fun
  | [d1, d2, d3, d4, d5] => { results := [.lit (.bool false)], args := [d1, d2, d3, d4, d5] }
  | _ => none }
def MovesFitWrongFalsely : Prop := movesFitRow.holds Try.pinned (OpenSpec.ofChange movesFitWrong)

/-- 'cellplanelaw21.MovesCheck': WHATEVER THE INPUT: true; the input reads as it did. -/
def movesCheckSpec : ChangeSpec := { name := "movesCheck", fn := fun _ => fun
  | [d1, d2, d3, d4, d5] => { results := [.lit (.bool true)], args := [d1, d2, d3, d4, d5] }
  | _ => none }
def movesCheckRow : OpenClaim := { program := "ytbgdpdkkbmlhdaa", sum := "6c29ab530e37b2dcafe251f9c02d26de6629c991be34ac6065f69690ab63d7fe", func := "cellplane/cellplanelaw21.MovesCheck", spec := "movesCheck", unfollowed := true, recurses := true, apart := false }
def MovesCheckSaid : Prop := movesCheckRow.holds Try.pinned (OpenSpec.ofChange movesCheckSpec)

/-- ITS FALSE NEIGHBOUR: 'it returns false'. Refute it at one input. -/
def movesCheckWrong : ChangeSpec := { name := "movesCheck", fn := fun _ => fun
  | [d1, d2, d3, d4, d5] => { results := [.lit (.bool false)], args := [d1, d2, d3, d4, d5] }
  | _ => none }
def MovesCheckWrongFalsely : Prop := movesCheckRow.holds Try.pinned (OpenSpec.ofChange movesCheckWrong)

/-- 'cellplanelaw21.MovesSafe': WHATEVER THE INPUT: true; the input reads as it did. -/
def movesSafeSpec : ChangeSpec := { name := "movesSafe", fn := fun _ => fun
  | [d1, d2, d3] => { results := [.lit (.bool true)], args := [d1, d2, d3] }
  | _ => none }
def movesSafeRow : OpenClaim := { program := "ytbgdpdkkbmlhdaa", sum := "6c29ab530e37b2dcafe251f9c02d26de6629c991be34ac6065f69690ab63d7fe", func := "cellplane/cellplanelaw21.MovesSafe", spec := "movesSafe", unfollowed := true, recurses := true, apart := false }
def MovesSafeSaid : Prop := movesSafeRow.holds Try.pinned (OpenSpec.ofChange movesSafeSpec)

/-- ITS FALSE NEIGHBOUR: 'it returns false'. Refute it at one input. -/
def movesSafeWrong : ChangeSpec := { name := "movesSafe", fn := fun _ => fun
  | [d1, d2, d3] => { results := [.lit (.bool false)], args := [d1, d2, d3] }
  | _ => none }
def MovesSafeWrongFalsely : Prop := movesSafeRow.holds Try.pinned (OpenSpec.ofChange movesSafeWrong)

/-- 'cellplanelaw21.MovesStuck': WHATEVER THE INPUT: true; the input reads as it did. -/
def movesStuckSpec : ChangeSpec := { name := "movesStuck", fn := fun _ => fun
  | [d1, d2, d3] => { results := [.lit (.bool true)], args := [d1, d2, d3] }
  | _ => none }
def movesStuckRow : OpenClaim := { program := "ytbgdpdkkbmlhdaa", sum := "6c29ab530e37b2dcafe251f9c02d26de6629c991be34ac6065f69690ab63d7fe", func := "cellplane/cellplanelaw21.MovesStuck", spec := "movesStuck", unfollowed := true, recurses := true, apart := false }
def MovesStuckSaid : Prop := movesStuckRow.holds Try.pinned (OpenSpec.ofChange movesStuckSpec)

/-- ITS FALSE NEIGHBOUR: 'it returns false'. Refute it at one input. -/
def movesStuckWrong : ChangeSpec := { name := "movesStuck", fn := fun _ => fun
  | [d1, d2, d3] => { results := [.lit (.bool false)], args := [d1, d2, d3] }
  | _ => none }
def MovesStuckWrongFalsely : Prop := movesStuckRow.holds Try.pinned (OpenSpec.ofChange movesStuckWrong)

/-- 'cellplanelaw21.MovesNothing': WHATEVER THE INPUT: true; the input reads as it did. -/
def movesNothingSpec : ChangeSpec := { name := "movesNothing", fn := fun _ => fun
  | [d1, d2, d3] => { results := [.lit (.bool true)], args := [d1, d2, d3] }
  | _ => none }
def movesNothingRow : OpenClaim := { program := "ytbgdpdkkbmlhdaa", sum := "6c29ab530e37b2dcafe251f9c02d26de6629c991be34ac6065f69690ab63d7fe", func := "cellplane/cellplanelaw21.MovesNothing", spec := "movesNothing", unfollowed := true, recurses := true, apart := false }
def MovesNothingSaid : Prop := movesNothingRow.holds Try.pinned (OpenSpec.ofChange movesNothingSpec)

/-- ITS FALSE NEIGHBOUR: 'it returns false'. Refute it at one input. -/
def movesNothingWrong : ChangeSpec := { name := "movesNothing", fn := fun _ => fun
  | [d1, d2, d3] => { results := [.lit (.bool false)], args := [d1, d2, d3] }
  | _ => none }
def MovesNothingWrongFalsely : Prop := movesNothingRow.holds Try.pinned (OpenSpec.ofChange movesNothingWrong)

/- THE SECOND FORM. 'bulk': how many values and letters a reading holds, each counted each time it is reached (what is shared counts as often as it is met; a slice's spare places count too). A statement '..UptoSaid' is the law's where the arguments, and the package variables that the reading takes, are together of bulk at most 1048576: NARROWER than '..Said'. Prove '..Said' where nothing that the law and all that it calls make is longer than what came in: it says more and counts as full. Else prove '..UptoSaid'. A law counts once. -/
mutual
def uptoBulk {H : Type} : DataW H → Nat
  | .lit (.string bytes) => bytes.length + 1
  | .lit _ => 1
  | .nil => 1
  | .ptr d => uptoBulk d + 1
  | .slice elems spare => uptoBulkAll elems + uptoBulkAll spare + 1
  | .agg parts => uptoBulkAll parts + 1
  | .iface _ d => uptoBulk d + 1
  | .map entries => uptoBulkEntries entries + 1
  | .held _ => 1
def uptoBulkAll {H : Type} : List (DataW H) → Nat
  | [] => 0
  | d :: r => uptoBulk d + uptoBulkAll r
def uptoBulkEntries {H : Type} : List (Lit × DataW H) → Nat
  | [] => 0
  | x :: r => uptoBulkEntry x + uptoBulkEntries r
def uptoBulkEntry {H : Type} : Lit × DataW H → Nat
  | (.string bytes, d) => bytes.length + uptoBulk d + 1
  | (_, d) => uptoBulk d + 1
 end
def uptoSmall : (H : Type) → List (DataW H) → Bool := fun _ ds => decide (uptoBulkAll ds ≤ 1048576)
def OpenSpec.upto (s : _root_.Go.ChangeSpec) : _root_.Go.OpenSpec := { _root_.Go.OpenSpec.ofChange s with cond := some uptoSmall }

/-- 'cellplanelaw21.MovesFit', WHERE WHAT IT READS IS OF BULK AT MOST 1048576: true; the input reads as it did. -/
def movesFitUptoRow : OpenClaim := { program := "ytbgdpdkkbmlhdaa", sum := "6c29ab530e37b2dcafe251f9c02d26de6629c991be34ac6065f69690ab63d7fe", func := "cellplane/cellplanelaw21.MovesFit", spec := "movesFit", unfollowed := true, recurses := true, apart := false, narrowed := true }
def MovesFitUptoSaid : Prop := movesFitUptoRow.holds Try.pinned (OpenSpec.upto movesFitSpec)

/-- 'cellplanelaw21.MovesCheck', WHERE WHAT IT READS IS OF BULK AT MOST 1048576: true; the input reads as it did. -/
def movesCheckUptoRow : OpenClaim := { program := "ytbgdpdkkbmlhdaa", sum := "6c29ab530e37b2dcafe251f9c02d26de6629c991be34ac6065f69690ab63d7fe", func := "cellplane/cellplanelaw21.MovesCheck", spec := "movesCheck", unfollowed := true, recurses := true, apart := false, narrowed := true }
def MovesCheckUptoSaid : Prop := movesCheckUptoRow.holds Try.pinned (OpenSpec.upto movesCheckSpec)

/-- 'cellplanelaw21.MovesSafe', WHERE WHAT IT READS IS OF BULK AT MOST 1048576: true; the input reads as it did. -/
def movesSafeUptoRow : OpenClaim := { program := "ytbgdpdkkbmlhdaa", sum := "6c29ab530e37b2dcafe251f9c02d26de6629c991be34ac6065f69690ab63d7fe", func := "cellplane/cellplanelaw21.MovesSafe", spec := "movesSafe", unfollowed := true, recurses := true, apart := false, narrowed := true }
def MovesSafeUptoSaid : Prop := movesSafeUptoRow.holds Try.pinned (OpenSpec.upto movesSafeSpec)

/-- 'cellplanelaw21.MovesStuck', WHERE WHAT IT READS IS OF BULK AT MOST 1048576: true; the input reads as it did. -/
def movesStuckUptoRow : OpenClaim := { program := "ytbgdpdkkbmlhdaa", sum := "6c29ab530e37b2dcafe251f9c02d26de6629c991be34ac6065f69690ab63d7fe", func := "cellplane/cellplanelaw21.MovesStuck", spec := "movesStuck", unfollowed := true, recurses := true, apart := false, narrowed := true }
def MovesStuckUptoSaid : Prop := movesStuckUptoRow.holds Try.pinned (OpenSpec.upto movesStuckSpec)

/-- 'cellplanelaw21.MovesNothing', WHERE WHAT IT READS IS OF BULK AT MOST 1048576: true; the input reads as it did. -/
def movesNothingUptoRow : OpenClaim := { program := "ytbgdpdkkbmlhdaa", sum := "6c29ab530e37b2dcafe251f9c02d26de6629c991be34ac6065f69690ab63d7fe", func := "cellplane/cellplanelaw21.MovesNothing", spec := "movesNothing", unfollowed := true, recurses := true, apart := false, narrowed := true }
def MovesNothingUptoSaid : Prop := movesNothingUptoRow.holds Try.pinned (OpenSpec.upto movesNothingSpec)

end Rows
end Go.Proofs.Ytbgdpdkkbmlhdaa
