/- The machine's program is the given one (written by mkglobal.py). -/
import Derived.Test.YtjgijnimbnielaaDoorCpRow
import Derived.Test.YtjgijnimbnielaaDoorPP
import Derived.Test.YtjgijnimbnielaaDoorProg
set_option maxRecDepth 100000
set_option linter.unusedVariables false
namespace Go.Proofs.Cp
open Go
open Go.Proofs
def ids : List (Nat × Nat) := [(11, 11), (12, 34), (13, 14), (14, 15), (15, 28), (16, 32), (17, 60), (19, 58), (21, 59), (23, 35), (25, 29), (28, 37), (30, 65), (37, 81), (39, 76), (40, 97), (41, 80), (47, 57), (48, 38), (49, 39), (50, 40), (51, 41), (52, 42), (53, 43), (54, 82), (55, 72), (56, 33), (57, 63), (59, 45), (61, 61), (62, 62), (63, 83), (64, 84), (65, 85), (66, 86), (73, 98), (76, 64), (77, 87), (79, 99), (88, 10), (90, 16), (93, 19), (97, 24), (103, 44), (105, 47), (110, 52), (113, 55), (114, 66), (116, 69), (117, 70), (118, 71), (119, 73), (120, 74), (121, 75), (122, 77), (123, 78), (124, 79), (125, 91), (126, 92), (127, 93), (128, 94), (129, 95), (130, 96)]
def T (c : Nat) : FuncId := ((ids.find? fun p => p.1 == c).map (·.2)).getD 0
def inv (f : FuncId) : Option Nat := (ids.find? fun p => p.2 == f).map (·.1)
def unfL : List Nat := [48, 49, 50, 51, 61, 62, 105, 110, 116, 119, 120, 123, 124, 125, 127, 128, 129, 130]
def frzF (c : Nat) : Bool := !unfL.contains c
def glob : Nat → Option (List Value) := fun gg => if gg = 0 then some [.int .i64 0, .int .i64 (-1), .int .i64 (-1), .int .i64 (-1), .int .i64 (-1)] else none
noncomputable def G : Ctx := ⟨Tryd.prog, T, inv, frzF, glob⟩
end Go.Proofs.Cp
