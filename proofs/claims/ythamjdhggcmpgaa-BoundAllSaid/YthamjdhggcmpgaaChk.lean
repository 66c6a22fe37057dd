/- The machine's program is the given one (written by mkglobal.py). -/
import Derived.Test.YthamjdhggcmpgaaCpRow
import Derived.Test.YthamjdhggcmpgaaPP
import Derived.Test.YthamjdhggcmpgaaProg
set_option maxRecDepth 100000
set_option linter.unusedVariables false
namespace Go.Proofs.Cp
open Go
open Go.Proofs
def ids : List (Nat × Nat) := [(4, 6), (11, 13), (12, 14), (13, 15), (14, 16), (15, 17), (16, 18), (17, 19), (19, 21), (21, 23), (23, 25), (25, 27), (28, 30), (37, 39), (39, 41), (40, 42), (41, 43), (47, 49), (48, 50), (49, 51), (50, 52), (51, 53), (52, 54), (53, 55), (54, 56), (55, 57), (56, 58), (57, 59), (59, 61), (61, 63), (62, 64), (66, 68), (73, 75), (76, 78), (77, 79)]
def T (c : Nat) : FuncId := ((ids.find? fun p => p.1 == c).map (·.2)).getD 0
def inv (f : FuncId) : Option Nat := (ids.find? fun p => p.2 == f).map (·.1)
def unfL : List Nat := [48, 49, 50, 51, 61, 62]
def frzF (c : Nat) : Bool := !unfL.contains c
def glob : Nat → Option (List Value) := fun _ => none
noncomputable def G : Ctx := ⟨Try.prog, T, inv, frzF, glob⟩
end Go.Proofs.Cp
