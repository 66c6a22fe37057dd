/- The machine's program is the given one (written by mkglobal.py). -/
import Derived.Test.YtjgijnimbnielaaCpRow
import Derived.Test.YtjgijnimbnielaaPP
import Derived.Test.YtjgijnimbnielaaProg
set_option maxRecDepth 100000
set_option linter.unusedVariables false
namespace Go.Proofs.Cp
open Go
open Go.Proofs
def ids : List (Nat × Nat) := [(11, 11), (15, 17), (16, 25), (28, 13), (30, 40), (37, 34), (39, 56), (48, 36), (50, 37), (55, 27), (61, 38), (62, 39), (63, 57), (64, 58), (65, 59), (66, 60), (73, 55), (77, 51), (79, 69), (103, 15), (114, 41), (126, 29), (137, 9), (138, 12), (139, 19), (141, 21), (143, 24), (144, 32), (145, 35), (146, 44), (147, 45), (148, 46), (149, 47), (151, 53), (152, 54), (153, 64), (154, 65), (155, 66), (156, 68), (157, 70), (158, 71), (159, 72), (160, 73), (161, 74), (162, 75), (163, 76), (164, 77), (165, 78), (166, 79), (167, 80), (168, 81), (169, 82), (170, 83), (171, 84), (172, 85)]
def T (c : Nat) : FuncId := ((ids.find? fun p => p.1 == c).map (·.2)).getD 0
def inv (f : FuncId) : Option Nat := (ids.find? fun p => p.2 == f).map (·.1)
def unfL : List Nat := [48, 50, 61, 62, 146, 151, 153, 157, 158, 159, 160, 161, 162, 163, 164, 167, 169, 170, 171, 172]
def frzF (c : Nat) : Bool := !unfL.contains c
def glob : Nat → Option (List Value) := fun _ => none
noncomputable def G : Ctx := ⟨Try.prog, T, inv, frzF, glob⟩
end Go.Proofs.Cp
