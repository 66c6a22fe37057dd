/-
  No cell of these rows narrows 'for every input' (looked for: loops, veiled, ifaces, maps, wideKeys, modest, calm, conditions, laid).
  DERIVED. THE GIVEN ROWS OF THIS SEAT. 10 by the template 'for every input the law returns true; each argument reads behind the call as it read before'; 0 by the template 'total and deterministic' (their statements: YthamjdhggcmpgaaTotals.lean).
  GIVEN WITH THE SEED: the statements are not yours to turn. If you find one false, say at which input.
  Laid BY PROGRAM, IN A SANDBOX (cutbox-rows.mjs): the forced cells as the released guide's own fill.sh prints them over the translation f5799ad8909546f7… (all of the seat's roots in one cut). By AI agents, Wed Nov 11 2026. No macro, syntax, notation, axiom, sorry.
-/
import Derived.Test.YthamjdhggcmpgaaChecked
import GoSem.Claim
import GoSem.ClaimJoined
import GoSem.ClaimMapViews
import Derived.JoinedTies
import Derived.KernelRfl
namespace Go.Proofs.Ythamjdhggcmpgaa
/- THE CELL 'sum', in the pinned program and in every row, IS THE sha256 OF THE DUMP (.gsa) THAT YthamjdhggcmpgaaProg.lean LOADS. Nothing in Lean hashes anything: it is a label: what it is worth is what the hold of that sum in a sandbox is worth. -/
noncomputable def Try.pinned : Pinned := { name := "ythamjdhggcmpgaa", sum := "f5799ad8909546f7b4a370d782b473b0a24f555cca524c32831df5629b4bfbfd", checked := Try.checked }
namespace Rows
def none {H : Type} : Left H := { results := [], args := [] }

/-- 'cellplanelaw18.BoundTells': WHATEVER THE INPUT: true; the input reads as it did. -/
def boundTellsSpec : ChangeSpec := { name := "boundTells", fn := fun _ => fun
  | [d1, d2, d3, d4, d5] => { results := [.lit (.bool true)], args := [d1, d2, d3, d4, d5] }
  | _ => none }
def boundTellsRow : OpenClaim := { program := "ythamjdhggcmpgaa", sum := "f5799ad8909546f7b4a370d782b473b0a24f555cca524c32831df5629b4bfbfd", func := "cellplane/cellplanelaw18.BoundTells", spec := "boundTells", apart := false }
def BoundTellsSaid : Prop := boundTellsRow.holds Try.pinned (OpenSpec.ofChange boundTellsSpec)

/-- ITS FALSE NEIGHBOUR: 'it returns false'. Refute it at one input. -/
def boundTellsWrong : ChangeSpec := { name := "boundTells", fn := fun _ => fun
  | [d1, d2, d3, d4, d5] => { results := [.lit (.bool false)], args := [d1, d2, d3, d4, d5] }
  | _ => none }
def BoundTellsWrongFalsely : Prop := boundTellsRow.holds Try.pinned (OpenSpec.ofChange boundTellsWrong)

/-- 'cellplanelaw18.BoundExceeded': WHATEVER THE INPUT: true; the input reads as it did. -/
def boundExceededSpec : ChangeSpec := { name := "boundExceeded", fn := fun _ => fun
  | [d1, d2, d3] => { results := [.lit (.bool true)], args := [d1, d2, d3] }
  | _ => none }
def boundExceededRow : OpenClaim := { program := "ythamjdhggcmpgaa", sum := "f5799ad8909546f7b4a370d782b473b0a24f555cca524c32831df5629b4bfbfd", func := "cellplane/cellplanelaw18.BoundExceeded", spec := "boundExceeded", apart := false }
def BoundExceededSaid : Prop := boundExceededRow.holds Try.pinned (OpenSpec.ofChange boundExceededSpec)

/-- ITS FALSE NEIGHBOUR: 'it returns false'. Refute it at one input. -/
def boundExceededWrong : ChangeSpec := { name := "boundExceeded", fn := fun _ => fun
  | [d1, d2, d3] => { results := [.lit (.bool false)], args := [d1, d2, d3] }
  | _ => none }
def BoundExceededWrongFalsely : Prop := boundExceededRow.holds Try.pinned (OpenSpec.ofChange boundExceededWrong)

/-- 'cellplanelaw18.BoundGrows': WHATEVER THE INPUT: true; the input reads as it did. -/
def boundGrowsSpec : ChangeSpec := { name := "boundGrows", fn := fun _ => fun
  | [d1, d2, d3, d4, d5] => { results := [.lit (.bool true)], args := [d1, d2, d3, d4, d5] }
  | _ => none }
def boundGrowsRow : OpenClaim := { program := "ythamjdhggcmpgaa", sum := "f5799ad8909546f7b4a370d782b473b0a24f555cca524c32831df5629b4bfbfd", func := "cellplane/cellplanelaw18.BoundGrows", spec := "boundGrows", apart := false }
def BoundGrowsSaid : Prop := boundGrowsRow.holds Try.pinned (OpenSpec.ofChange boundGrowsSpec)

/-- ITS FALSE NEIGHBOUR: 'it returns false'. Refute it at one input. -/
def boundGrowsWrong : ChangeSpec := { name := "boundGrows", fn := fun _ => fun
  | [d1, d2, d3, d4, d5] => { results := [.lit (.bool false)], args := [d1, d2, d3, d4, d5] }
  | _ => none }
def BoundGrowsWrongFalsely : Prop := boundGrowsRow.holds Try.pinned (OpenSpec.ofChange boundGrowsWrong)

/-- 'cellplanelaw18.BoundAll': WHATEVER THE INPUT: true; the input reads as it did. -/
def boundAllSpec : ChangeSpec := { name := "boundAll", fn := fun _ => fun
  | [d1, d2, d3] => { results := [.lit (.bool true)], args := [d1, d2, d3] }
  | _ => none }
def boundAllRow : OpenClaim := { program := "ythamjdhggcmpgaa", sum := "f5799ad8909546f7b4a370d782b473b0a24f555cca524c32831df5629b4bfbfd", func := "cellplane/cellplanelaw18.BoundAll", spec := "boundAll", apart := false }
def BoundAllSaid : Prop := boundAllRow.holds Try.pinned (OpenSpec.ofChange boundAllSpec)

/-- ITS FALSE NEIGHBOUR: 'it returns false'. Refute it at one input. -/
def boundAllWrong : ChangeSpec := { name := "boundAll", fn := fun _ => fun
  | [d1, d2, d3] => { results := [.lit (.bool false)], args := [d1, d2, d3] }
  | _ => none }
def BoundAllWrongFalsely : Prop := boundAllRow.holds Try.pinned (OpenSpec.ofChange boundAllWrong)

/-- 'cellplanelaw04.TopoValid': WHATEVER THE INPUT: true; the input reads as it did. -/
def topoValidSpec : ChangeSpec := { name := "topoValid", fn := fun _ => fun
  | [d1, d2, d3, d4] => { results := [.lit (.bool true)], args := [d1, d2, d3, d4] }
  | _ => none }
def topoValidRow : OpenClaim := { program := "ythamjdhggcmpgaa", sum := "f5799ad8909546f7b4a370d782b473b0a24f555cca524c32831df5629b4bfbfd", func := "cellplane/cellplanelaw04.TopoValid", spec := "topoValid", unfollowed := true, recurses := true, apart := false }
def TopoValidSaid : Prop := topoValidRow.holds Try.pinned (OpenSpec.ofChange topoValidSpec)

/-- ITS FALSE NEIGHBOUR: 'it returns false'. Refute it at one input. -/
def topoValidWrong : ChangeSpec := { name := "topoValid", fn := fun _ => fun
  | [d1, d2, d3, d4] => { results := [.lit (.bool false)], args := [d1, d2, d3, d4] }
  | _ => none }
def TopoValidWrongFalsely : Prop := topoValidRow.holds Try.pinned (OpenSpec.ofChange topoValidWrong)

/-- 'cellplanelaw04.TopoSurvives': WHATEVER THE INPUT: true; the input reads as it did. -/
def topoSurvivesSpec : ChangeSpec := { name := "topoSurvives", fn := fun _ => fun
  | [d1, d2] => { results := [.lit (.bool true)], args := [d1, d2] }
  | _ => none }
def topoSurvivesRow : OpenClaim := { program := "ythamjdhggcmpgaa", sum := "f5799ad8909546f7b4a370d782b473b0a24f555cca524c32831df5629b4bfbfd", func := "cellplane/cellplanelaw04.TopoSurvives", spec := "topoSurvives", unfollowed := true, recurses := true, apart := false }
def TopoSurvivesSaid : Prop := topoSurvivesRow.holds Try.pinned (OpenSpec.ofChange topoSurvivesSpec)

/-- ITS FALSE NEIGHBOUR: 'it returns false'. Refute it at one input. -/
def topoSurvivesWrong : ChangeSpec := { name := "topoSurvives", fn := fun _ => fun
  | [d1, d2] => { results := [.lit (.bool false)], args := [d1, d2] }
  | _ => none }
def TopoSurvivesWrongFalsely : Prop := topoSurvivesRow.holds Try.pinned (OpenSpec.ofChange topoSurvivesWrong)

/-- 'cellplanelaw04.TopoMajority': WHATEVER THE INPUT: true; the input reads as it did. -/
def topoMajoritySpec : ChangeSpec := { name := "topoMajority", fn := fun _ => fun
  | [d1, d2, d3] => { results := [.lit (.bool true)], args := [d1, d2, d3] }
  | _ => none }
def topoMajorityRow : OpenClaim := { program := "ythamjdhggcmpgaa", sum := "f5799ad8909546f7b4a370d782b473b0a24f555cca524c32831df5629b4bfbfd", func := "cellplane/cellplanelaw04.TopoMajority", spec := "topoMajority", unfollowed := true, recurses := true, apart := false }
def TopoMajoritySaid : Prop := topoMajorityRow.holds Try.pinned (OpenSpec.ofChange topoMajoritySpec)

/-- ITS FALSE NEIGHBOUR: 'it returns false'. Refute it at one input. -/
def topoMajorityWrong : ChangeSpec := { name := "topoMajority", fn := fun _ => fun
  | [d1, d2, d3] => { results := [.lit (.bool false)], args := [d1, d2, d3] }
  | _ => none }
def TopoMajorityWrongFalsely : Prop := topoMajorityRow.holds Try.pinned (OpenSpec.ofChange topoMajorityWrong)

/-- 'cellplanelaw04.TopoAlive': WHATEVER THE INPUT: true; the input reads as it did. -/
def topoAliveSpec : ChangeSpec := { name := "topoAlive", fn := fun _ => fun
  | [d1, d2] => { results := [.lit (.bool true)], args := [d1, d2] }
  | _ => none }
def topoAliveRow : OpenClaim := { program := "ythamjdhggcmpgaa", sum := "f5799ad8909546f7b4a370d782b473b0a24f555cca524c32831df5629b4bfbfd", func := "cellplane/cellplanelaw04.TopoAlive", spec := "topoAlive", unfollowed := true, recurses := true, apart := false }
def TopoAliveSaid : Prop := topoAliveRow.holds Try.pinned (OpenSpec.ofChange topoAliveSpec)

/-- ITS FALSE NEIGHBOUR: 'it returns false'. Refute it at one input. -/
def topoAliveWrong : ChangeSpec := { name := "topoAlive", fn := fun _ => fun
  | [d1, d2] => { results := [.lit (.bool false)], args := [d1, d2] }
  | _ => none }
def TopoAliveWrongFalsely : Prop := topoAliveRow.holds Try.pinned (OpenSpec.ofChange topoAliveWrong)

/-- 'cellplanelaw04.TopoCells': WHATEVER THE INPUT: true; the input reads as it did. -/
def topoCellsSpec : ChangeSpec := { name := "topoCells", fn := fun _ => fun
  | [d1, d2, d3, d4] => { results := [.lit (.bool true)], args := [d1, d2, d3, d4] }
  | _ => none }
def topoCellsRow : OpenClaim := { program := "ythamjdhggcmpgaa", sum := "f5799ad8909546f7b4a370d782b473b0a24f555cca524c32831df5629b4bfbfd", func := "cellplane/cellplanelaw04.TopoCells", spec := "topoCells", unfollowed := true, recurses := true, apart := false }
def TopoCellsSaid : Prop := topoCellsRow.holds Try.pinned (OpenSpec.ofChange topoCellsSpec)

/-- ITS FALSE NEIGHBOUR: 'it returns false'. Refute it at one input. -/
def topoCellsWrong : ChangeSpec := { name := "topoCells", fn := fun _ => fun
  | [d1, d2, d3, d4] => { results := [.lit (.bool false)], args := [d1, d2, d3, d4] }
  | _ => none }
def TopoCellsWrongFalsely : Prop := topoCellsRow.holds Try.pinned (OpenSpec.ofChange topoCellsWrong)

/-- 'cellplanelaw04.TopoPartition': WHATEVER THE INPUT: true; the input reads as it did. -/
def topoPartitionSpec : ChangeSpec := { name := "topoPartition", fn := fun _ => fun
  | [d] => { results := [.lit (.bool true)], args := [d] }
  | _ => none }
def topoPartitionRow : OpenClaim := { program := "ythamjdhggcmpgaa", sum := "f5799ad8909546f7b4a370d782b473b0a24f555cca524c32831df5629b4bfbfd", func := "cellplane/cellplanelaw04.TopoPartition", spec := "topoPartition", unfollowed := true, recurses := true, apart := false }
def TopoPartitionSaid : Prop := topoPartitionRow.holds Try.pinned (OpenSpec.ofChange topoPartitionSpec)

/-- ITS FALSE NEIGHBOUR: 'it returns false'. Refute it at one input. -/
def topoPartitionWrong : ChangeSpec := { name := "topoPartition", fn := fun _ => fun
  | [d] => { results := [.lit (.bool false)], args := [d] }
  | _ => none }
def TopoPartitionWrongFalsely : Prop := topoPartitionRow.holds Try.pinned (OpenSpec.ofChange topoPartitionWrong)

/- THE SECOND FORM. 'bulk': how many values and letters a reading holds, each counted each time it is reached (what is shared counts as often as it is met; a slice's spare places count too). A statement '..UptoSaid' is the law's where the arguments, and the package variables that the reading takes, are together of bulk at most 1048576: NARROWER than '..Said'. Prove '..Said' where nothing that the law and all that it calls make is longer than what came in: it says more and counts as full. Else prove '..UptoSaid'. A law counts once. -/
mutual
def uptoBulk {H : Type} : DataW H → Nat
  | .lit (.string bytes) => bytes.length + 1
  | .lit _ => 1
  | .nil => 1
  | .ptr d => uptoBulk d + 1
  | .slice elems spare => uptoBulkAll elems + uptoBulkAll spare + 1
  | .agg parts => uptoBulkAll parts + 1
  | .iface _ d => uptoBulk d + 1
  | .map entries => uptoBulkEntries entries + 1
  | .held _ => 1
def uptoBulkAll {H : Type} : List (DataW H) → Nat
  | [] => 0
  | d :: r => uptoBulk d + uptoBulkAll r
def uptoBulkEntries {H : Type} : List (Lit × DataW H) → Nat
  | [] => 0
  | x :: r => uptoBulkEntry x + uptoBulkEntries r
def uptoBulkEntry {H : Type} : Lit × DataW H → Nat
  | (.string bytes, d) => bytes.length + uptoBulk d + 1
  | (_, d) => uptoBulk d + 1
 end
def uptoSmall : (H : Type) → List (DataW H) → Bool := fun _ ds => decide (uptoBulkAll ds ≤ 1048576)
def OpenSpec.upto (s : _root_.Go.ChangeSpec) : _root_.Go.OpenSpec := { _root_.Go.OpenSpec.ofChange s with cond := some uptoSmall }

/-- 'cellplanelaw18.BoundTells', WHERE WHAT IT READS IS OF BULK AT MOST 1048576: true; the input reads as it did. -/
def boundTellsUptoRow : OpenClaim := { program := "ythamjdhggcmpgaa", sum := "f5799ad8909546f7b4a370d782b473b0a24f555cca524c32831df5629b4bfbfd", func := "cellplane/cellplanelaw18.BoundTells", spec := "boundTells", apart := false, narrowed := true }
def BoundTellsUptoSaid : Prop := boundTellsUptoRow.holds Try.pinned (OpenSpec.upto boundTellsSpec)

/-- 'cellplanelaw18.BoundExceeded', WHERE WHAT IT READS IS OF BULK AT MOST 1048576: true; the input reads as it did. -/
def boundExceededUptoRow : OpenClaim := { program := "ythamjdhggcmpgaa", sum := "f5799ad8909546f7b4a370d782b473b0a24f555cca524c32831df5629b4bfbfd", func := "cellplane/cellplanelaw18.BoundExceeded", spec := "boundExceeded", apart := false, narrowed := true }
def BoundExceededUptoSaid : Prop := boundExceededUptoRow.holds Try.pinned (OpenSpec.upto boundExceededSpec)

/-- 'cellplanelaw18.BoundGrows', WHERE WHAT IT READS IS OF BULK AT MOST 1048576: true; the input reads as it did. -/
def boundGrowsUptoRow : OpenClaim := { program := "ythamjdhggcmpgaa", sum := "f5799ad8909546f7b4a370d782b473b0a24f555cca524c32831df5629b4bfbfd", func := "cellplane/cellplanelaw18.BoundGrows", spec := "boundGrows", apart := false, narrowed := true }
def BoundGrowsUptoSaid : Prop := boundGrowsUptoRow.holds Try.pinned (OpenSpec.upto boundGrowsSpec)

/-- 'cellplanelaw18.BoundAll', WHERE WHAT IT READS IS OF BULK AT MOST 1048576: true; the input reads as it did. -/
def boundAllUptoRow : OpenClaim := { program := "ythamjdhggcmpgaa", sum := "f5799ad8909546f7b4a370d782b473b0a24f555cca524c32831df5629b4bfbfd", func := "cellplane/cellplanelaw18.BoundAll", spec := "boundAll", apart := false, narrowed := true }
def BoundAllUptoSaid : Prop := boundAllUptoRow.holds Try.pinned (OpenSpec.upto boundAllSpec)

/-- 'cellplanelaw04.TopoValid', WHERE WHAT IT READS IS OF BULK AT MOST 1048576: true; the input reads as it did. -/
def topoValidUptoRow : OpenClaim := { program := "ythamjdhggcmpgaa", sum := "f5799ad8909546f7b4a370d782b473b0a24f555cca524c32831df5629b4bfbfd", func := "cellplane/cellplanelaw04.TopoValid", spec := "topoValid", unfollowed := true, recurses := true, apart := false, narrowed := true }
def TopoValidUptoSaid : Prop := topoValidUptoRow.holds Try.pinned (OpenSpec.upto topoValidSpec)

/-- 'cellplanelaw04.TopoSurvives', WHERE WHAT IT READS IS OF BULK AT MOST 1048576: true; the input reads as it did. -/
def topoSurvivesUptoRow : OpenClaim := { program := "ythamjdhggcmpgaa", sum := "f5799ad8909546f7b4a370d782b473b0a24f555cca524c32831df5629b4bfbfd", func := "cellplane/cellplanelaw04.TopoSurvives", spec := "topoSurvives", unfollowed := true, recurses := true, apart := false, narrowed := true }
def TopoSurvivesUptoSaid : Prop := topoSurvivesUptoRow.holds Try.pinned (OpenSpec.upto topoSurvivesSpec)

/-- 'cellplanelaw04.TopoMajority', WHERE WHAT IT READS IS OF BULK AT MOST 1048576: true; the input reads as it did. -/
def topoMajorityUptoRow : OpenClaim := { program := "ythamjdhggcmpgaa", sum := "f5799ad8909546f7b4a370d782b473b0a24f555cca524c32831df5629b4bfbfd", func := "cellplane/cellplanelaw04.TopoMajority", spec := "topoMajority", unfollowed := true, recurses := true, apart := false, narrowed := true }
def TopoMajorityUptoSaid : Prop := topoMajorityUptoRow.holds Try.pinned (OpenSpec.upto topoMajoritySpec)

/-- 'cellplanelaw04.TopoAlive', WHERE WHAT IT READS IS OF BULK AT MOST 1048576: true; the input reads as it did. -/
def topoAliveUptoRow : OpenClaim := { program := "ythamjdhggcmpgaa", sum := "f5799ad8909546f7b4a370d782b473b0a24f555cca524c32831df5629b4bfbfd", func := "cellplane/cellplanelaw04.TopoAlive", spec := "topoAlive", unfollowed := true, recurses := true, apart := false, narrowed := true }
def TopoAliveUptoSaid : Prop := topoAliveUptoRow.holds Try.pinned (OpenSpec.upto topoAliveSpec)

/-- 'cellplanelaw04.TopoCells', WHERE WHAT IT READS IS OF BULK AT MOST 1048576: true; the input reads as it did. -/
def topoCellsUptoRow : OpenClaim := { program := "ythamjdhggcmpgaa", sum := "f5799ad8909546f7b4a370d782b473b0a24f555cca524c32831df5629b4bfbfd", func := "cellplane/cellplanelaw04.TopoCells", spec := "topoCells", unfollowed := true, recurses := true, apart := false, narrowed := true }
def TopoCellsUptoSaid : Prop := topoCellsUptoRow.holds Try.pinned (OpenSpec.upto topoCellsSpec)

/-- 'cellplanelaw04.TopoPartition', WHERE WHAT IT READS IS OF BULK AT MOST 1048576: true; the input reads as it did. -/
def topoPartitionUptoRow : OpenClaim := { program := "ythamjdhggcmpgaa", sum := "f5799ad8909546f7b4a370d782b473b0a24f555cca524c32831df5629b4bfbfd", func := "cellplane/cellplanelaw04.TopoPartition", spec := "topoPartition", unfollowed := true, recurses := true, apart := false, narrowed := true }
def TopoPartitionUptoSaid : Prop := topoPartitionUptoRow.holds Try.pinned (OpenSpec.upto topoPartitionSpec)

end Rows
end Go.Proofs.Ythamjdhggcmpgaa
