/-
  No cell of these rows narrows 'for every input' (looked for: loops, veiled, ifaces, maps, wideKeys, modest, calm, conditions, laid).
  DERIVED. THE GIVEN ROWS OF THIS SEAT. 7 by the template 'for every input the law returns true; each argument reads behind the call as it read before'; 0 by the template 'total and deterministic' (their statements: YtjgijnimbnielaaTotals.lean).
  GIVEN WITH THE SEED: the statements are not yours to turn. If you find one false, say at which input.
  Laid BY PROGRAM, IN A SANDBOX (cutbox-rows.mjs): the forced cells as the released guide's own fill.sh prints them over the translation 4309f34c7c1acadb… (all of the seat's roots in one cut). By AI agents, Wed Nov 11 2026. No macro, syntax, notation, axiom, sorry.
-/
import Derived.Test.YtjgijnimbnielaaChecked
import GoSem.Claim
import GoSem.ClaimJoined
import GoSem.ClaimMapViews
import Derived.JoinedTies
import Derived.KernelRfl
namespace Go.Proofs.Ytjgijnimbnielaa
/- THE CELL 'sum', in the pinned program and in every row, IS THE sha256 OF THE DUMP (.gsa) THAT YtjgijnimbnielaaProg.lean LOADS. Nothing in Lean hashes anything: it is a label: what it is worth is what the hold of that sum in a sandbox is worth. -/
noncomputable def Try.pinned : Pinned := { name := "ytjgijnimbnielaa", sum := "4309f34c7c1acadb8989b502d802aada6dc1b4097b993222919717100442166c", checked := Try.checked }
namespace Rows
def none {H : Type} : Left H := { results := [], args := [] }

/-- 'cellplanelaw05.TenantValid': WHATEVER THE INPUT: true; the input reads as it did. -/
def tenantValidSpec : ChangeSpec := { name := "tenantValid", fn := fun _ => fun
  | [d1, d2, d3, d4] => { results := [.lit (.bool true)], args := [d1, d2, d3, d4] }
  | _ => none }
def tenantValidRow : OpenClaim := { program := "ytjgijnimbnielaa", sum := "4309f34c7c1acadb8989b502d802aada6dc1b4097b993222919717100442166c", func := "cellplane/cellplanelaw05.TenantValid", spec := "tenantValid", unfollowed := true, recurses := true, apart := false }
def TenantValidSaid : Prop := tenantValidRow.holds Try.pinned (OpenSpec.ofChange tenantValidSpec)

/-- ITS FALSE NEIGHBOUR: 'it returns false'. Refute it at one input. -/
def tenantValidWrong : ChangeSpec := { name := "tenantValid", fn := fun _ => fun
  | [d1, d2, d3, d4] => { results := [.lit (.bool false)], args := [d1, d2, d3, d4] }
  | _ => none }
def TenantValidWrongFalsely : Prop := tenantValidRow.holds Try.pinned (OpenSpec.ofChange tenantValidWrong)

/-- 'cellplanelaw05.TenantDeclared': WHATEVER THE INPUT: true; the input reads as it did. -/
def tenantDeclaredSpec : ChangeSpec := { name := "tenantDeclared", fn := fun _ => fun
  | [d1, d2, d3] => { results := [.lit (.bool true)], args := [d1, d2, d3] }
  | _ => none }
def tenantDeclaredRow : OpenClaim := { program := "ytjgijnimbnielaa", sum := "4309f34c7c1acadb8989b502d802aada6dc1b4097b993222919717100442166c", func := "cellplane/cellplanelaw05.TenantDeclared", spec := "tenantDeclared", unfollowed := true, recurses := true, apart := false }
def TenantDeclaredSaid : Prop := tenantDeclaredRow.holds Try.pinned (OpenSpec.ofChange tenantDeclaredSpec)

/-- ITS FALSE NEIGHBOUR: 'it returns false'. Refute it at one input. -/
def tenantDeclaredWrong : ChangeSpec := { name := "tenantDeclared", fn := fun _ => fun
  | [d1, d2, d3] => { results := [.lit (.bool false)], args := [d1, d2, d3] }
  | _ => none }
def TenantDeclaredWrongFalsely : Prop := tenantDeclaredRow.holds Try.pinned (OpenSpec.ofChange tenantDeclaredWrong)

/-- 'cellplanelaw05.TenantOrder': WHATEVER THE INPUT: true; the input reads as it did. -/
def tenantOrderSpec : ChangeSpec := { name := "tenantOrder", fn := fun _ => fun
  | [d] => { results := [.lit (.bool true)], args := [d] }
  | _ => none }
def tenantOrderRow : OpenClaim := { program := "ytjgijnimbnielaa", sum := "4309f34c7c1acadb8989b502d802aada6dc1b4097b993222919717100442166c", func := "cellplane/cellplanelaw05.TenantOrder", spec := "tenantOrder", unfollowed := true, recurses := true, apart := false }
def TenantOrderSaid : Prop := tenantOrderRow.holds Try.pinned (OpenSpec.ofChange tenantOrderSpec)

/-- ITS FALSE NEIGHBOUR: 'it returns false'. Refute it at one input. -/
def tenantOrderWrong : ChangeSpec := { name := "tenantOrder", fn := fun _ => fun
  | [d] => { results := [.lit (.bool false)], args := [d] }
  | _ => none }
def TenantOrderWrongFalsely : Prop := tenantOrderRow.holds Try.pinned (OpenSpec.ofChange tenantOrderWrong)

/-- 'cellplanelaw05.TenantSorted': WHATEVER THE INPUT: true; the input reads as it did. -/
def tenantSortedSpec : ChangeSpec := { name := "tenantSorted", fn := fun _ => fun
  | [d] => { results := [.lit (.bool true)], args := [d] }
  | _ => none }
def tenantSortedRow : OpenClaim := { program := "ytjgijnimbnielaa", sum := "4309f34c7c1acadb8989b502d802aada6dc1b4097b993222919717100442166c", func := "cellplane/cellplanelaw05.TenantSorted", spec := "tenantSorted", unfollowed := true, recurses := true, apart := false }
def TenantSortedSaid : Prop := tenantSortedRow.holds Try.pinned (OpenSpec.ofChange tenantSortedSpec)

/-- ITS FALSE NEIGHBOUR: 'it returns false'. Refute it at one input. -/
def tenantSortedWrong : ChangeSpec := { name := "tenantSorted", fn := fun _ => fun
  | [d] => { results := [.lit (.bool false)], args := [d] }
  | _ => none }
def TenantSortedWrongFalsely : Prop := tenantSortedRow.holds Try.pinned (OpenSpec.ofChange tenantSortedWrong)

/-- 'cellplanelaw05.TenantRegions': WHATEVER THE INPUT: true; the input reads as it did. -/
def tenantRegionsSpec : ChangeSpec := { name := "tenantRegions", fn := fun _ => fun
  | [d1, d2] => { results := [.lit (.bool true)], args := [d1, d2] }
  | _ => none }
def tenantRegionsRow : OpenClaim := { program := "ytjgijnimbnielaa", sum := "4309f34c7c1acadb8989b502d802aada6dc1b4097b993222919717100442166c", func := "cellplane/cellplanelaw05.TenantRegions", spec := "tenantRegions", unfollowed := true, recurses := true, apart := false }
def TenantRegionsSaid : Prop := tenantRegionsRow.holds Try.pinned (OpenSpec.ofChange tenantRegionsSpec)

/-- ITS FALSE NEIGHBOUR: 'it returns false'. Refute it at one input. -/
def tenantRegionsWrong : ChangeSpec := { name := "tenantRegions", fn := fun _ => fun
  | [d1, d2] => { results := [.lit (.bool false)], args := [d1, d2] }
  | _ => none }
def TenantRegionsWrongFalsely : Prop := tenantRegionsRow.holds Try.pinned (OpenSpec.ofChange tenantRegionsWrong)

/-- 'cellplanelaw05.TenantCells': WHATEVER THE INPUT: true; the input reads as it did. -/
def tenantCellsSpec : ChangeSpec := { name := "tenantCells", fn := fun _ => fun
  | [d1, d2, d3, d4] => { results := [.lit (.bool true)], args := [d1, d2, d3, d4] }
  | _ => none }
def tenantCellsRow : OpenClaim := { program := "ytjgijnimbnielaa", sum := "4309f34c7c1acadb8989b502d802aada6dc1b4097b993222919717100442166c", func := "cellplane/cellplanelaw05.TenantCells", spec := "tenantCells", unfollowed := true, recurses := true, apart := false }
def TenantCellsSaid : Prop := tenantCellsRow.holds Try.pinned (OpenSpec.ofChange tenantCellsSpec)

/-- ITS FALSE NEIGHBOUR: 'it returns false'. Refute it at one input. -/
def tenantCellsWrong : ChangeSpec := { name := "tenantCells", fn := fun _ => fun
  | [d1, d2, d3, d4] => { results := [.lit (.bool false)], args := [d1, d2, d3, d4] }
  | _ => none }
def TenantCellsWrongFalsely : Prop := tenantCellsRow.holds Try.pinned (OpenSpec.ofChange tenantCellsWrong)

/-- 'cellplanelaw05.TenantApart': WHATEVER THE INPUT: true; the input reads as it did. -/
def tenantApartSpec : ChangeSpec := { name := "tenantApart", fn := fun _ => fun
  | [d1, d2, d3, d4] => { results := [.lit (.bool true)], args := [d1, d2, d3, d4] }
  | _ => none }
def tenantApartRow : OpenClaim := { program := "ytjgijnimbnielaa", sum := "4309f34c7c1acadb8989b502d802aada6dc1b4097b993222919717100442166c", func := "cellplane/cellplanelaw05.TenantApart", spec := "tenantApart", unfollowed := true, recurses := true, apart := false }
def TenantApartSaid : Prop := tenantApartRow.holds Try.pinned (OpenSpec.ofChange tenantApartSpec)

/-- ITS FALSE NEIGHBOUR: 'it returns false'. Refute it at one input. -/
def tenantApartWrong : ChangeSpec := { name := "tenantApart", fn := fun _ => fun
  | [d1, d2, d3, d4] => { results := [.lit (.bool false)], args := [d1, d2, d3, d4] }
  | _ => none }
def TenantApartWrongFalsely : Prop := tenantApartRow.holds Try.pinned (OpenSpec.ofChange tenantApartWrong)

/- THE SECOND FORM. 'bulk': how many values and letters a reading holds, each counted each time it is reached (what is shared counts as often as it is met; a slice's spare places count too). A statement '..UptoSaid' is the law's where the arguments, and the package variables that the reading takes, are together of bulk at most 1048576: NARROWER than '..Said'. Prove '..Said' where nothing that the law and all that it calls make is longer than what came in: it says more and counts as full. Else prove '..UptoSaid'. A law counts once. -/
mutual
def uptoBulk {H : Type} : DataW H → Nat
  | .lit (.string bytes) => bytes.length + 1
  | .lit _ => 1
  | .nil => 1
  | .ptr d => uptoBulk d + 1
  | .slice elems spare => uptoBulkAll elems + uptoBulkAll spare + 1
  | .agg parts => uptoBulkAll parts + 1
  | .iface _ d => uptoBulk d + 1
  | .map entries => uptoBulkEntries entries + 1
  | .held _ => 1
def uptoBulkAll {H : Type} : List (DataW H) → Nat
  | [] => 0
  | d :: r => uptoBulk d + uptoBulkAll r
def uptoBulkEntries {H : Type} : List (Lit × DataW H) → Nat
  | [] => 0
  | x :: r => uptoBulkEntry x + uptoBulkEntries r
def uptoBulkEntry {H : Type} : Lit × DataW H → Nat
  | (.string bytes, d) => bytes.length + uptoBulk d + 1
  | (_, d) => uptoBulk d + 1
 end
def uptoSmall : (H : Type) → List (DataW H) → Bool := fun _ ds => decide (uptoBulkAll ds ≤ 1048576)
def OpenSpec.upto (s : _root_.Go.ChangeSpec) : _root_.Go.OpenSpec := { _root_.Go.OpenSpec.ofChange s with cond := some uptoSmall }

/-- 'cellplanelaw05.TenantValid', WHERE WHAT IT READS IS OF BULK AT MOST 1048576: true; the input reads as it did. -/
def tenantValidUptoRow : OpenClaim := { program := "ytjgijnimbnielaa", sum := "4309f34c7c1acadb8989b502d802aada6dc1b4097b993222919717100442166c", func := "cellplane/cellplanelaw05.TenantValid", spec := "tenantValid", unfollowed := true, recurses := true, apart := false, narrowed := true }
def TenantValidUptoSaid : Prop := tenantValidUptoRow.holds Try.pinned (OpenSpec.upto tenantValidSpec)

/-- 'cellplanelaw05.TenantDeclared', WHERE WHAT IT READS IS OF BULK AT MOST 1048576: true; the input reads as it did. -/
def tenantDeclaredUptoRow : OpenClaim := { program := "ytjgijnimbnielaa", sum := "4309f34c7c1acadb8989b502d802aada6dc1b4097b993222919717100442166c", func := "cellplane/cellplanelaw05.TenantDeclared", spec := "tenantDeclared", unfollowed := true, recurses := true, apart := false, narrowed := true }
def TenantDeclaredUptoSaid : Prop := tenantDeclaredUptoRow.holds Try.pinned (OpenSpec.upto tenantDeclaredSpec)

/-- 'cellplanelaw05.TenantOrder', WHERE WHAT IT READS IS OF BULK AT MOST 1048576: true; the input reads as it did. -/
def tenantOrderUptoRow : OpenClaim := { program := "ytjgijnimbnielaa", sum := "4309f34c7c1acadb8989b502d802aada6dc1b4097b993222919717100442166c", func := "cellplane/cellplanelaw05.TenantOrder", spec := "tenantOrder", unfollowed := true, recurses := true, apart := false, narrowed := true }
def TenantOrderUptoSaid : Prop := tenantOrderUptoRow.holds Try.pinned (OpenSpec.upto tenantOrderSpec)

/-- 'cellplanelaw05.TenantSorted', WHERE WHAT IT READS IS OF BULK AT MOST 1048576: true; the input reads as it did. -/
def tenantSortedUptoRow : OpenClaim := { program := "ytjgijnimbnielaa", sum := "4309f34c7c1acadb8989b502d802aada6dc1b4097b993222919717100442166c", func := "cellplane/cellplanelaw05.TenantSorted", spec := "tenantSorted", unfollowed := true, recurses := true, apart := false, narrowed := true }
def TenantSortedUptoSaid : Prop := tenantSortedUptoRow.holds Try.pinned (OpenSpec.upto tenantSortedSpec)

/-- 'cellplanelaw05.TenantRegions', WHERE WHAT IT READS IS OF BULK AT MOST 1048576: true; the input reads as it did. -/
def tenantRegionsUptoRow : OpenClaim := { program := "ytjgijnimbnielaa", sum := "4309f34c7c1acadb8989b502d802aada6dc1b4097b993222919717100442166c", func := "cellplane/cellplanelaw05.TenantRegions", spec := "tenantRegions", unfollowed := true, recurses := true, apart := false, narrowed := true }
def TenantRegionsUptoSaid : Prop := tenantRegionsUptoRow.holds Try.pinned (OpenSpec.upto tenantRegionsSpec)

/-- 'cellplanelaw05.TenantCells', WHERE WHAT IT READS IS OF BULK AT MOST 1048576: true; the input reads as it did. -/
def tenantCellsUptoRow : OpenClaim := { program := "ytjgijnimbnielaa", sum := "4309f34c7c1acadb8989b502d802aada6dc1b4097b993222919717100442166c", func := "cellplane/cellplanelaw05.TenantCells", spec := "tenantCells", unfollowed := true, recurses := true, apart := false, narrowed := true }
def TenantCellsUptoSaid : Prop := tenantCellsUptoRow.holds Try.pinned (OpenSpec.upto tenantCellsSpec)

/-- 'cellplanelaw05.TenantApart', WHERE WHAT IT READS IS OF BULK AT MOST 1048576: true; the input reads as it did. -/
def tenantApartUptoRow : OpenClaim := { program := "ytjgijnimbnielaa", sum := "4309f34c7c1acadb8989b502d802aada6dc1b4097b993222919717100442166c", func := "cellplane/cellplanelaw05.TenantApart", spec := "tenantApart", unfollowed := true, recurses := true, apart := false, narrowed := true }
def TenantApartUptoSaid : Prop := tenantApartUptoRow.holds Try.pinned (OpenSpec.upto tenantApartSpec)

end Rows
end Go.Proofs.Ytjgijnimbnielaa
