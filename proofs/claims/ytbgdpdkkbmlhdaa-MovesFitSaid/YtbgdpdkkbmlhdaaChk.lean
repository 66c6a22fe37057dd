/- The machine's program is the given one (written by mkglobal.py). -/
import Derived.Test.YtbgdpdkkbmlhdaaCpRowS
import Derived.Test.YtbgdpdkkbmlhdaaPP
import Derived.Test.YtbgdpdkkbmlhdaaProg
set_option maxRecDepth 100000
set_option linter.unusedVariables false
namespace Go.Proofs.Cp
open Go
open Go.Proofs
def ids : List (Nat × Nat) := [(11, 8), (14, 11), (15, 12), (16, 35), (25, 39), (28, 10), (30, 56), (31, 68), (37, 53), (39, 60), (40, 62), (41, 55), (48, 27), (49, 31), (50, 28), (51, 32), (52, 33), (53, 34), (56, 58), (57, 52), (58, 25), (59, 50), (61, 29), (62, 30), (63, 63), (64, 64), (65, 65), (66, 66), (67, 71), (68, 72), (69, 73), (73, 59), (76, 42), (77, 67), (78, 51), (79, 70), (90, 23), (91, 54), (103, 49), (104, 61), (114, 57), (115, 69), (126, 38), (218, 20), (220, 3), (225, 9), (226, 13), (227, 14), (228, 15), (229, 16), (230, 17), (232, 19), (234, 22), (236, 26), (237, 36), (238, 37), (239, 40), (240, 41), (241, 43), (242, 44), (244, 46), (245, 47), (246, 48)]
def T (c : Nat) : FuncId := ((ids.find? fun p => p.1 == c).map (·.2)).getD 0
def inv (f : FuncId) : Option Nat := (ids.find? fun p => p.2 == f).map (·.1)
def unfL : List Nat := [48, 49, 50, 51, 61, 62, 78]
def frzF (c : Nat) : Bool := !unfL.contains c
def glob : Nat → Option (List Value) := fun _ => none
noncomputable def G : Ctx := ⟨Try.prog, T, inv, frzF, glob⟩
end Go.Proofs.Cp
