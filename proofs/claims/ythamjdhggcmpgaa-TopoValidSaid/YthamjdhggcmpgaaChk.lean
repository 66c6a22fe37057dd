/- The machine's program is the given one (written by mkglobal.py). -/
import Derived.Test.YthamjdhggcmpgaaCpRowS
import Derived.Test.YthamjdhggcmpgaaPP
import Derived.Test.YthamjdhggcmpgaaProg
set_option maxRecDepth 100000
set_option linter.unusedVariables false
namespace Go.Proofs.Cp
open Go
open Go.Proofs
def ids : List (Nat × Nat) := [(5, 7), (11, 13), (15, 17), (16, 18), (26, 28), (27, 29), (28, 30), (29, 31), (30, 32), (31, 33), (33, 35), (35, 37), (37, 39), (39, 41), (48, 50), (50, 52), (60, 62), (61, 63), (62, 64), (63, 65), (64, 66), (65, 67), (66, 68), (67, 69), (68, 70), (69, 71), (70, 72), (71, 73), (72, 74), (73, 75), (79, 81)]
def T (c : Nat) : FuncId := ((ids.find? fun p => p.1 == c).map (·.2)).getD 0
def inv (f : FuncId) : Option Nat := (ids.find? fun p => p.2 == f).map (·.1)
def unfL : List Nat := [48, 50, 61, 62]
def frzF (c : Nat) : Bool := !unfL.contains c
def glob : Nat → Option (List Value) := fun _ => none
noncomputable def G : Ctx := ⟨Try.prog, T, inv, frzF, glob⟩
end Go.Proofs.Cp
