/- The program, as the machine has it (written by mkglobal.py). -/
import Derived.Test.YtjgijnimbnielaaIr0
import Derived.Test.YtjgijnimbnielaaCpOk
set_option maxRecDepth 100000
set_option linter.unusedVariables false
namespace Go.Proofs.Cp
open Go
def shL : List Nat := [50, 61, 62, 146, 151, 153, 157, 158, 159, 160, 161, 162, 163, 164, 167, 169, 170, 171, 172]
def shF (f : Nat) : Bool := shL.contains f
def tblPP : List (Nat × IFun) := [(11, ir11), (15, ir15), (16, ir16), (28, ir28), (30, ir30), (37, ir37), (39, ir39), (48, ir48), (50, ir50), (55, ir55), (61, ir61), (62, ir62), (63, ir63), (64, ir64), (65, ir65), (66, ir66), (73, ir73), (77, ir77), (79, ir79), (103, ir103), (114, ir114), (126, ir126), (137, ir137), (138, ir138), (139, ir139), (141, ir141), (143, ir143), (144, ir144), (145, ir145), (146, ir146), (147, ir147), (148, ir148), (149, ir149), (151, ir151), (152, ir152), (153, ir153), (154, ir154), (155, ir155), (156, ir156), (157, ir157), (158, ir158), (159, ir159), (160, ir160), (161, ir161), (162, ir162), (163, ir163), (164, ir164), (165, ir165), (166, ir166), (167, ir167), (168, ir168), (169, ir169), (170, ir170), (171, ir171), (172, ir172)]
def lkp (f : Nat) : List (Nat × IFun) → Option IFun
  | [] => none
  | p :: l => if p.1 = f then some p.2 else lkp f l
def PP : Prog := fun f => lkp f tblPP
theorem lkp_mem {f : Nat} {fn : IFun} : ∀ {l : List (Nat × IFun)}, lkp f l = some fn → (f, fn) ∈ l
  | [], h => by simp [lkp] at h
  | p :: l, h => by
    simp only [lkp] at h
    split at h
    · rename_i hp; simp at h; subst h; subst hp; simp
    · exact List.mem_cons_of_mem _ (lkp_mem h)
theorem PP11 : PP 11 = some ir11 := rfl
@[go_sem] theorem sh11 : shF 11 = false := rfl
@[go_sem] theorem vc11 {base nt : Nat} {dst : Option Nat} {args : List DV} {frz : Bool} {H : VHeap} : vcall (F PP shF) shF base nt dst 11 args frz H = (mapO (frzD H 6) args).bind (vpure PP shF base dst 11 (closedL args) frz H) := vcall_pure sh11
@[go_sem] theorem ve11 {base nt : Nat} {dst : Option Nat} {args : List DV} {frz : Bool} {H : VHeap} : vcallE (F PP shF) shF base nt 11 args dst frz H = (mapO (frzD H 6) args).bind (vpure PP shF base dst 11 (closedL args) frz H) := vcallE_pure sh11
theorem PP15 : PP 15 = some ir15 := rfl
@[go_sem] theorem sh15 : shF 15 = false := rfl
@[go_sem] theorem vc15 {base nt : Nat} {dst : Option Nat} {args : List DV} {frz : Bool} {H : VHeap} : vcall (F PP shF) shF base nt dst 15 args frz H = (mapO (frzD H 6) args).bind (vpure PP shF base dst 15 (closedL args) frz H) := vcall_pure sh15
@[go_sem] theorem ve15 {base nt : Nat} {dst : Option Nat} {args : List DV} {frz : Bool} {H : VHeap} : vcallE (F PP shF) shF base nt 15 args dst frz H = (mapO (frzD H 6) args).bind (vpure PP shF base dst 15 (closedL args) frz H) := vcallE_pure sh15
theorem PP16 : PP 16 = some ir16 := rfl
@[go_sem] theorem sh16 : shF 16 = false := rfl
@[go_sem] theorem vc16 {base nt : Nat} {dst : Option Nat} {args : List DV} {frz : Bool} {H : VHeap} : vcall (F PP shF) shF base nt dst 16 args frz H = (mapO (frzD H 6) args).bind (vpure PP shF base dst 16 (closedL args) frz H) := vcall_pure sh16
@[go_sem] theorem ve16 {base nt : Nat} {dst : Option Nat} {args : List DV} {frz : Bool} {H : VHeap} : vcallE (F PP shF) shF base nt 16 args dst frz H = (mapO (frzD H 6) args).bind (vpure PP shF base dst 16 (closedL args) frz H) := vcallE_pure sh16
theorem PP28 : PP 28 = some ir28 := rfl
@[go_sem] theorem sh28 : shF 28 = false := rfl
@[go_sem] theorem vc28 {base nt : Nat} {dst : Option Nat} {args : List DV} {frz : Bool} {H : VHeap} : vcall (F PP shF) shF base nt dst 28 args frz H = (mapO (frzD H 6) args).bind (vpure PP shF base dst 28 (closedL args) frz H) := vcall_pure sh28
@[go_sem] theorem ve28 {base nt : Nat} {dst : Option Nat} {args : List DV} {frz : Bool} {H : VHeap} : vcallE (F PP shF) shF base nt 28 args dst frz H = (mapO (frzD H 6) args).bind (vpure PP shF base dst 28 (closedL args) frz H) := vcallE_pure sh28
theorem PP30 : PP 30 = some ir30 := rfl
@[go_sem] theorem sh30 : shF 30 = false := rfl
@[go_sem] theorem vc30 {base nt : Nat} {dst : Option Nat} {args : List DV} {frz : Bool} {H : VHeap} : vcall (F PP shF) shF base nt dst 30 args frz H = (mapO (frzD H 6) args).bind (vpure PP shF base dst 30 (closedL args) frz H) := vcall_pure sh30
@[go_sem] theorem ve30 {base nt : Nat} {dst : Option Nat} {args : List DV} {frz : Bool} {H : VHeap} : vcallE (F PP shF) shF base nt 30 args dst frz H = (mapO (frzD H 6) args).bind (vpure PP shF base dst 30 (closedL args) frz H) := vcallE_pure sh30
theorem PP37 : PP 37 = some ir37 := rfl
@[go_sem] theorem sh37 : shF 37 = false := rfl
@[go_sem] theorem vc37 {base nt : Nat} {dst : Option Nat} {args : List DV} {frz : Bool} {H : VHeap} : vcall (F PP shF) shF base nt dst 37 args frz H = (mapO (frzD H 6) args).bind (vpure PP shF base dst 37 (closedL args) frz H) := vcall_pure sh37
@[go_sem] theorem ve37 {base nt : Nat} {dst : Option Nat} {args : List DV} {frz : Bool} {H : VHeap} : vcallE (F PP shF) shF base nt 37 args dst frz H = (mapO (frzD H 6) args).bind (vpure PP shF base dst 37 (closedL args) frz H) := vcallE_pure sh37
theorem PP39 : PP 39 = some ir39 := rfl
@[go_sem] theorem sh39 : shF 39 = false := rfl
@[go_sem] theorem vc39 {base nt : Nat} {dst : Option Nat} {args : List DV} {frz : Bool} {H : VHeap} : vcall (F PP shF) shF base nt dst 39 args frz H = (mapO (frzD H 6) args).bind (vpure PP shF base dst 39 (closedL args) frz H) := vcall_pure sh39
@[go_sem] theorem ve39 {base nt : Nat} {dst : Option Nat} {args : List DV} {frz : Bool} {H : VHeap} : vcallE (F PP shF) shF base nt 39 args dst frz H = (mapO (frzD H 6) args).bind (vpure PP shF base dst 39 (closedL args) frz H) := vcallE_pure sh39
theorem PP48 : PP 48 = some ir48 := rfl
@[go_sem] theorem sh48 : shF 48 = false := rfl
@[go_sem] theorem vc48 {base nt : Nat} {dst : Option Nat} {args : List DV} {frz : Bool} {H : VHeap} : vcall (F PP shF) shF base nt dst 48 args frz H = (mapO (frzD H 6) args).bind (vpure PP shF base dst 48 (closedL args) frz H) := vcall_pure sh48
@[go_sem] theorem ve48 {base nt : Nat} {dst : Option Nat} {args : List DV} {frz : Bool} {H : VHeap} : vcallE (F PP shF) shF base nt 48 args dst frz H = (mapO (frzD H 6) args).bind (vpure PP shF base dst 48 (closedL args) frz H) := vcallE_pure sh48
theorem PP50 : PP 50 = some ir50 := rfl
@[go_sem] theorem sh50 : shF 50 = true := rfl
@[go_sem] theorem vc50 {base nt : Nat} {dst : Option Nat} {args : List DV} {H : VHeap} : vcall (F PP shF) shF base nt dst 50 args false H = (F PP shF 50 args H (max H.length (base + nt))).map fun r => (r.1, some r.2) := vcall_sh sh50
@[go_sem] theorem ve50 {base nt : Nat} {dst : Option Nat} {args : List DV} {H : VHeap} : vcallE (F PP shF) shF base nt 50 args dst false H = (F PP shF 50 args (keepV H (args.map refD).flatten) (max H.length (base + nt))).map fun r => (r.1, some (mergeV H (args.map refD).flatten r.2)) := vcallE_sh sh50
theorem PP55 : PP 55 = some ir55 := rfl
@[go_sem] theorem sh55 : shF 55 = false := rfl
@[go_sem] theorem vc55 {base nt : Nat} {dst : Option Nat} {args : List DV} {frz : Bool} {H : VHeap} : vcall (F PP shF) shF base nt dst 55 args frz H = (mapO (frzD H 6) args).bind (vpure PP shF base dst 55 (closedL args) frz H) := vcall_pure sh55
@[go_sem] theorem ve55 {base nt : Nat} {dst : Option Nat} {args : List DV} {frz : Bool} {H : VHeap} : vcallE (F PP shF) shF base nt 55 args dst frz H = (mapO (frzD H 6) args).bind (vpure PP shF base dst 55 (closedL args) frz H) := vcallE_pure sh55
theorem PP61 : PP 61 = some ir61 := rfl
@[go_sem] theorem sh61 : shF 61 = true := rfl
@[go_sem] theorem vc61 {base nt : Nat} {dst : Option Nat} {args : List DV} {H : VHeap} : vcall (F PP shF) shF base nt dst 61 args false H = (F PP shF 61 args H (max H.length (base + nt))).map fun r => (r.1, some r.2) := vcall_sh sh61
@[go_sem] theorem ve61 {base nt : Nat} {dst : Option Nat} {args : List DV} {H : VHeap} : vcallE (F PP shF) shF base nt 61 args dst false H = (F PP shF 61 args (keepV H (args.map refD).flatten) (max H.length (base + nt))).map fun r => (r.1, some (mergeV H (args.map refD).flatten r.2)) := vcallE_sh sh61
theorem PP62 : PP 62 = some ir62 := rfl
@[go_sem] theorem sh62 : shF 62 = true := rfl
@[go_sem] theorem vc62 {base nt : Nat} {dst : Option Nat} {args : List DV} {H : VHeap} : vcall (F PP shF) shF base nt dst 62 args false H = (F PP shF 62 args H (max H.length (base + nt))).map fun r => (r.1, some r.2) := vcall_sh sh62
@[go_sem] theorem ve62 {base nt : Nat} {dst : Option Nat} {args : List DV} {H : VHeap} : vcallE (F PP shF) shF base nt 62 args dst false H = (F PP shF 62 args (keepV H (args.map refD).flatten) (max H.length (base + nt))).map fun r => (r.1, some (mergeV H (args.map refD).flatten r.2)) := vcallE_sh sh62
theorem PP63 : PP 63 = some ir63 := rfl
@[go_sem] theorem sh63 : shF 63 = false := rfl
@[go_sem] theorem vc63 {base nt : Nat} {dst : Option Nat} {args : List DV} {frz : Bool} {H : VHeap} : vcall (F PP shF) shF base nt dst 63 args frz H = (mapO (frzD H 6) args).bind (vpure PP shF base dst 63 (closedL args) frz H) := vcall_pure sh63
@[go_sem] theorem ve63 {base nt : Nat} {dst : Option Nat} {args : List DV} {frz : Bool} {H : VHeap} : vcallE (F PP shF) shF base nt 63 args dst frz H = (mapO (frzD H 6) args).bind (vpure PP shF base dst 63 (closedL args) frz H) := vcallE_pure sh63
theorem PP64 : PP 64 = some ir64 := rfl
@[go_sem] theorem sh64 : shF 64 = false := rfl
@[go_sem] theorem vc64 {base nt : Nat} {dst : Option Nat} {args : List DV} {frz : Bool} {H : VHeap} : vcall (F PP shF) shF base nt dst 64 args frz H = (mapO (frzD H 6) args).bind (vpure PP shF base dst 64 (closedL args) frz H) := vcall_pure sh64
@[go_sem] theorem ve64 {base nt : Nat} {dst : Option Nat} {args : List DV} {frz : Bool} {H : VHeap} : vcallE (F PP shF) shF base nt 64 args dst frz H = (mapO (frzD H 6) args).bind (vpure PP shF base dst 64 (closedL args) frz H) := vcallE_pure sh64
theorem PP65 : PP 65 = some ir65 := rfl
@[go_sem] theorem sh65 : shF 65 = false := rfl
@[go_sem] theorem vc65 {base nt : Nat} {dst : Option Nat} {args : List DV} {frz : Bool} {H : VHeap} : vcall (F PP shF) shF base nt dst 65 args frz H = (mapO (frzD H 6) args).bind (vpure PP shF base dst 65 (closedL args) frz H) := vcall_pure sh65
@[go_sem] theorem ve65 {base nt : Nat} {dst : Option Nat} {args : List DV} {frz : Bool} {H : VHeap} : vcallE (F PP shF) shF base nt 65 args dst frz H = (mapO (frzD H 6) args).bind (vpure PP shF base dst 65 (closedL args) frz H) := vcallE_pure sh65
theorem PP66 : PP 66 = some ir66 := rfl
@[go_sem] theorem sh66 : shF 66 = false := rfl
@[go_sem] theorem vc66 {base nt : Nat} {dst : Option Nat} {args : List DV} {frz : Bool} {H : VHeap} : vcall (F PP shF) shF base nt dst 66 args frz H = (mapO (frzD H 6) args).bind (vpure PP shF base dst 66 (closedL args) frz H) := vcall_pure sh66
@[go_sem] theorem ve66 {base nt : Nat} {dst : Option Nat} {args : List DV} {frz : Bool} {H : VHeap} : vcallE (F PP shF) shF base nt 66 args dst frz H = (mapO (frzD H 6) args).bind (vpure PP shF base dst 66 (closedL args) frz H) := vcallE_pure sh66
theorem PP73 : PP 73 = some ir73 := rfl
@[go_sem] theorem sh73 : shF 73 = false := rfl
@[go_sem] theorem vc73 {base nt : Nat} {dst : Option Nat} {args : List DV} {frz : Bool} {H : VHeap} : vcall (F PP shF) shF base nt dst 73 args frz H = (mapO (frzD H 6) args).bind (vpure PP shF base dst 73 (closedL args) frz H) := vcall_pure sh73
@[go_sem] theorem ve73 {base nt : Nat} {dst : Option Nat} {args : List DV} {frz : Bool} {H : VHeap} : vcallE (F PP shF) shF base nt 73 args dst frz H = (mapO (frzD H 6) args).bind (vpure PP shF base dst 73 (closedL args) frz H) := vcallE_pure sh73
theorem PP77 : PP 77 = some ir77 := rfl
@[go_sem] theorem sh77 : shF 77 = false := rfl
@[go_sem] theorem vc77 {base nt : Nat} {dst : Option Nat} {args : List DV} {frz : Bool} {H : VHeap} : vcall (F PP shF) shF base nt dst 77 args frz H = (mapO (frzD H 6) args).bind (vpure PP shF base dst 77 (closedL args) frz H) := vcall_pure sh77
@[go_sem] theorem ve77 {base nt : Nat} {dst : Option Nat} {args : List DV} {frz : Bool} {H : VHeap} : vcallE (F PP shF) shF base nt 77 args dst frz H = (mapO (frzD H 6) args).bind (vpure PP shF base dst 77 (closedL args) frz H) := vcallE_pure sh77
theorem PP79 : PP 79 = some ir79 := rfl
@[go_sem] theorem sh79 : shF 79 = false := rfl
@[go_sem] theorem vc79 {base nt : Nat} {dst : Option Nat} {args : List DV} {frz : Bool} {H : VHeap} : vcall (F PP shF) shF base nt dst 79 args frz H = (mapO (frzD H 6) args).bind (vpure PP shF base dst 79 (closedL args) frz H) := vcall_pure sh79
@[go_sem] theorem ve79 {base nt : Nat} {dst : Option Nat} {args : List DV} {frz : Bool} {H : VHeap} : vcallE (F PP shF) shF base nt 79 args dst frz H = (mapO (frzD H 6) args).bind (vpure PP shF base dst 79 (closedL args) frz H) := vcallE_pure sh79
theorem PP103 : PP 103 = some ir103 := rfl
@[go_sem] theorem sh103 : shF 103 = false := rfl
@[go_sem] theorem vc103 {base nt : Nat} {dst : Option Nat} {args : List DV} {frz : Bool} {H : VHeap} : vcall (F PP shF) shF base nt dst 103 args frz H = (mapO (frzD H 6) args).bind (vpure PP shF base dst 103 (closedL args) frz H) := vcall_pure sh103
@[go_sem] theorem ve103 {base nt : Nat} {dst : Option Nat} {args : List DV} {frz : Bool} {H : VHeap} : vcallE (F PP shF) shF base nt 103 args dst frz H = (mapO (frzD H 6) args).bind (vpure PP shF base dst 103 (closedL args) frz H) := vcallE_pure sh103
theorem PP114 : PP 114 = some ir114 := rfl
@[go_sem] theorem sh114 : shF 114 = false := rfl
@[go_sem] theorem vc114 {base nt : Nat} {dst : Option Nat} {args : List DV} {frz : Bool} {H : VHeap} : vcall (F PP shF) shF base nt dst 114 args frz H = (mapO (frzD H 6) args).bind (vpure PP shF base dst 114 (closedL args) frz H) := vcall_pure sh114
@[go_sem] theorem ve114 {base nt : Nat} {dst : Option Nat} {args : List DV} {frz : Bool} {H : VHeap} : vcallE (F PP shF) shF base nt 114 args dst frz H = (mapO (frzD H 6) args).bind (vpure PP shF base dst 114 (closedL args) frz H) := vcallE_pure sh114
theorem PP126 : PP 126 = some ir126 := rfl
@[go_sem] theorem sh126 : shF 126 = false := rfl
@[go_sem] theorem vc126 {base nt : Nat} {dst : Option Nat} {args : List DV} {frz : Bool} {H : VHeap} : vcall (F PP shF) shF base nt dst 126 args frz H = (mapO (frzD H 6) args).bind (vpure PP shF base dst 126 (closedL args) frz H) := vcall_pure sh126
@[go_sem] theorem ve126 {base nt : Nat} {dst : Option Nat} {args : List DV} {frz : Bool} {H : VHeap} : vcallE (F PP shF) shF base nt 126 args dst frz H = (mapO (frzD H 6) args).bind (vpure PP shF base dst 126 (closedL args) frz H) := vcallE_pure sh126
theorem PP137 : PP 137 = some ir137 := rfl
@[go_sem] theorem sh137 : shF 137 = false := rfl
@[go_sem] theorem vc137 {base nt : Nat} {dst : Option Nat} {args : List DV} {frz : Bool} {H : VHeap} : vcall (F PP shF) shF base nt dst 137 args frz H = (mapO (frzD H 6) args).bind (vpure PP shF base dst 137 (closedL args) frz H) := vcall_pure sh137
@[go_sem] theorem ve137 {base nt : Nat} {dst : Option Nat} {args : List DV} {frz : Bool} {H : VHeap} : vcallE (F PP shF) shF base nt 137 args dst frz H = (mapO (frzD H 6) args).bind (vpure PP shF base dst 137 (closedL args) frz H) := vcallE_pure sh137
theorem PP138 : PP 138 = some ir138 := rfl
@[go_sem] theorem sh138 : shF 138 = false := rfl
@[go_sem] theorem vc138 {base nt : Nat} {dst : Option Nat} {args : List DV} {frz : Bool} {H : VHeap} : vcall (F PP shF) shF base nt dst 138 args frz H = (mapO (frzD H 6) args).bind (vpure PP shF base dst 138 (closedL args) frz H) := vcall_pure sh138
@[go_sem] theorem ve138 {base nt : Nat} {dst : Option Nat} {args : List DV} {frz : Bool} {H : VHeap} : vcallE (F PP shF) shF base nt 138 args dst frz H = (mapO (frzD H 6) args).bind (vpure PP shF base dst 138 (closedL args) frz H) := vcallE_pure sh138
theorem PP139 : PP 139 = some ir139 := rfl
@[go_sem] theorem sh139 : shF 139 = false := rfl
@[go_sem] theorem vc139 {base nt : Nat} {dst : Option Nat} {args : List DV} {frz : Bool} {H : VHeap} : vcall (F PP shF) shF base nt dst 139 args frz H = (mapO (frzD H 6) args).bind (vpure PP shF base dst 139 (closedL args) frz H) := vcall_pure sh139
@[go_sem] theorem ve139 {base nt : Nat} {dst : Option Nat} {args : List DV} {frz : Bool} {H : VHeap} : vcallE (F PP shF) shF base nt 139 args dst frz H = (mapO (frzD H 6) args).bind (vpure PP shF base dst 139 (closedL args) frz H) := vcallE_pure sh139
theorem PP141 : PP 141 = some ir141 := rfl
@[go_sem] theorem sh141 : shF 141 = false := rfl
@[go_sem] theorem vc141 {base nt : Nat} {dst : Option Nat} {args : List DV} {frz : Bool} {H : VHeap} : vcall (F PP shF) shF base nt dst 141 args frz H = (mapO (frzD H 6) args).bind (vpure PP shF base dst 141 (closedL args) frz H) := vcall_pure sh141
@[go_sem] theorem ve141 {base nt : Nat} {dst : Option Nat} {args : List DV} {frz : Bool} {H : VHeap} : vcallE (F PP shF) shF base nt 141 args dst frz H = (mapO (frzD H 6) args).bind (vpure PP shF base dst 141 (closedL args) frz H) := vcallE_pure sh141
theorem PP143 : PP 143 = some ir143 := rfl
@[go_sem] theorem sh143 : shF 143 = false := rfl
@[go_sem] theorem vc143 {base nt : Nat} {dst : Option Nat} {args : List DV} {frz : Bool} {H : VHeap} : vcall (F PP shF) shF base nt dst 143 args frz H = (mapO (frzD H 6) args).bind (vpure PP shF base dst 143 (closedL args) frz H) := vcall_pure sh143
@[go_sem] theorem ve143 {base nt : Nat} {dst : Option Nat} {args : List DV} {frz : Bool} {H : VHeap} : vcallE (F PP shF) shF base nt 143 args dst frz H = (mapO (frzD H 6) args).bind (vpure PP shF base dst 143 (closedL args) frz H) := vcallE_pure sh143
theorem PP144 : PP 144 = some ir144 := rfl
@[go_sem] theorem sh144 : shF 144 = false := rfl
@[go_sem] theorem vc144 {base nt : Nat} {dst : Option Nat} {args : List DV} {frz : Bool} {H : VHeap} : vcall (F PP shF) shF base nt dst 144 args frz H = (mapO (frzD H 6) args).bind (vpure PP shF base dst 144 (closedL args) frz H) := vcall_pure sh144
@[go_sem] theorem ve144 {base nt : Nat} {dst : Option Nat} {args : List DV} {frz : Bool} {H : VHeap} : vcallE (F PP shF) shF base nt 144 args dst frz H = (mapO (frzD H 6) args).bind (vpure PP shF base dst 144 (closedL args) frz H) := vcallE_pure sh144
theorem PP145 : PP 145 = some ir145 := rfl
@[go_sem] theorem sh145 : shF 145 = false := rfl
@[go_sem] theorem vc145 {base nt : Nat} {dst : Option Nat} {args : List DV} {frz : Bool} {H : VHeap} : vcall (F PP shF) shF base nt dst 145 args frz H = (mapO (frzD H 6) args).bind (vpure PP shF base dst 145 (closedL args) frz H) := vcall_pure sh145
@[go_sem] theorem ve145 {base nt : Nat} {dst : Option Nat} {args : List DV} {frz : Bool} {H : VHeap} : vcallE (F PP shF) shF base nt 145 args dst frz H = (mapO (frzD H 6) args).bind (vpure PP shF base dst 145 (closedL args) frz H) := vcallE_pure sh145
theorem PP146 : PP 146 = some ir146 := rfl
@[go_sem] theorem sh146 : shF 146 = true := rfl
@[go_sem] theorem vc146 {base nt : Nat} {dst : Option Nat} {args : List DV} {H : VHeap} : vcall (F PP shF) shF base nt dst 146 args false H = (F PP shF 146 args H (max H.length (base + nt))).map fun r => (r.1, some r.2) := vcall_sh sh146
@[go_sem] theorem ve146 {base nt : Nat} {dst : Option Nat} {args : List DV} {H : VHeap} : vcallE (F PP shF) shF base nt 146 args dst false H = (F PP shF 146 args (keepV H (args.map refD).flatten) (max H.length (base + nt))).map fun r => (r.1, some (mergeV H (args.map refD).flatten r.2)) := vcallE_sh sh146
theorem PP147 : PP 147 = some ir147 := rfl
@[go_sem] theorem sh147 : shF 147 = false := rfl
@[go_sem] theorem vc147 {base nt : Nat} {dst : Option Nat} {args : List DV} {frz : Bool} {H : VHeap} : vcall (F PP shF) shF base nt dst 147 args frz H = (mapO (frzD H 6) args).bind (vpure PP shF base dst 147 (closedL args) frz H) := vcall_pure sh147
@[go_sem] theorem ve147 {base nt : Nat} {dst : Option Nat} {args : List DV} {frz : Bool} {H : VHeap} : vcallE (F PP shF) shF base nt 147 args dst frz H = (mapO (frzD H 6) args).bind (vpure PP shF base dst 147 (closedL args) frz H) := vcallE_pure sh147
theorem PP148 : PP 148 = some ir148 := rfl
@[go_sem] theorem sh148 : shF 148 = false := rfl
@[go_sem] theorem vc148 {base nt : Nat} {dst : Option Nat} {args : List DV} {frz : Bool} {H : VHeap} : vcall (F PP shF) shF base nt dst 148 args frz H = (mapO (frzD H 6) args).bind (vpure PP shF base dst 148 (closedL args) frz H) := vcall_pure sh148
@[go_sem] theorem ve148 {base nt : Nat} {dst : Option Nat} {args : List DV} {frz : Bool} {H : VHeap} : vcallE (F PP shF) shF base nt 148 args dst frz H = (mapO (frzD H 6) args).bind (vpure PP shF base dst 148 (closedL args) frz H) := vcallE_pure sh148
theorem PP149 : PP 149 = some ir149 := rfl
@[go_sem] theorem sh149 : shF 149 = false := rfl
@[go_sem] theorem vc149 {base nt : Nat} {dst : Option Nat} {args : List DV} {frz : Bool} {H : VHeap} : vcall (F PP shF) shF base nt dst 149 args frz H = (mapO (frzD H 6) args).bind (vpure PP shF base dst 149 (closedL args) frz H) := vcall_pure sh149
@[go_sem] theorem ve149 {base nt : Nat} {dst : Option Nat} {args : List DV} {frz : Bool} {H : VHeap} : vcallE (F PP shF) shF base nt 149 args dst frz H = (mapO (frzD H 6) args).bind (vpure PP shF base dst 149 (closedL args) frz H) := vcallE_pure sh149
theorem PP151 : PP 151 = some ir151 := rfl
@[go_sem] theorem sh151 : shF 151 = true := rfl
@[go_sem] theorem vc151 {base nt : Nat} {dst : Option Nat} {args : List DV} {H : VHeap} : vcall (F PP shF) shF base nt dst 151 args false H = (F PP shF 151 args H (max H.length (base + nt))).map fun r => (r.1, some r.2) := vcall_sh sh151
@[go_sem] theorem ve151 {base nt : Nat} {dst : Option Nat} {args : List DV} {H : VHeap} : vcallE (F PP shF) shF base nt 151 args dst false H = (F PP shF 151 args (keepV H (args.map refD).flatten) (max H.length (base + nt))).map fun r => (r.1, some (mergeV H (args.map refD).flatten r.2)) := vcallE_sh sh151
theorem PP152 : PP 152 = some ir152 := rfl
@[go_sem] theorem sh152 : shF 152 = false := rfl
@[go_sem] theorem vc152 {base nt : Nat} {dst : Option Nat} {args : List DV} {frz : Bool} {H : VHeap} : vcall (F PP shF) shF base nt dst 152 args frz H = (mapO (frzD H 6) args).bind (vpure PP shF base dst 152 (closedL args) frz H) := vcall_pure sh152
@[go_sem] theorem ve152 {base nt : Nat} {dst : Option Nat} {args : List DV} {frz : Bool} {H : VHeap} : vcallE (F PP shF) shF base nt 152 args dst frz H = (mapO (frzD H 6) args).bind (vpure PP shF base dst 152 (closedL args) frz H) := vcallE_pure sh152
theorem PP153 : PP 153 = some ir153 := rfl
@[go_sem] theorem sh153 : shF 153 = true := rfl
@[go_sem] theorem vc153 {base nt : Nat} {dst : Option Nat} {args : List DV} {H : VHeap} : vcall (F PP shF) shF base nt dst 153 args false H = (F PP shF 153 args H (max H.length (base + nt))).map fun r => (r.1, some r.2) := vcall_sh sh153
@[go_sem] theorem ve153 {base nt : Nat} {dst : Option Nat} {args : List DV} {H : VHeap} : vcallE (F PP shF) shF base nt 153 args dst false H = (F PP shF 153 args (keepV H (args.map refD).flatten) (max H.length (base + nt))).map fun r => (r.1, some (mergeV H (args.map refD).flatten r.2)) := vcallE_sh sh153
theorem PP154 : PP 154 = some ir154 := rfl
@[go_sem] theorem sh154 : shF 154 = false := rfl
@[go_sem] theorem vc154 {base nt : Nat} {dst : Option Nat} {args : List DV} {frz : Bool} {H : VHeap} : vcall (F PP shF) shF base nt dst 154 args frz H = (mapO (frzD H 6) args).bind (vpure PP shF base dst 154 (closedL args) frz H) := vcall_pure sh154
@[go_sem] theorem ve154 {base nt : Nat} {dst : Option Nat} {args : List DV} {frz : Bool} {H : VHeap} : vcallE (F PP shF) shF base nt 154 args dst frz H = (mapO (frzD H 6) args).bind (vpure PP shF base dst 154 (closedL args) frz H) := vcallE_pure sh154
theorem PP155 : PP 155 = some ir155 := rfl
@[go_sem] theorem sh155 : shF 155 = false := rfl
@[go_sem] theorem vc155 {base nt : Nat} {dst : Option Nat} {args : List DV} {frz : Bool} {H : VHeap} : vcall (F PP shF) shF base nt dst 155 args frz H = (mapO (frzD H 6) args).bind (vpure PP shF base dst 155 (closedL args) frz H) := vcall_pure sh155
@[go_sem] theorem ve155 {base nt : Nat} {dst : Option Nat} {args : List DV} {frz : Bool} {H : VHeap} : vcallE (F PP shF) shF base nt 155 args dst frz H = (mapO (frzD H 6) args).bind (vpure PP shF base dst 155 (closedL args) frz H) := vcallE_pure sh155
theorem PP156 : PP 156 = some ir156 := rfl
@[go_sem] theorem sh156 : shF 156 = false := rfl
@[go_sem] theorem vc156 {base nt : Nat} {dst : Option Nat} {args : List DV} {frz : Bool} {H : VHeap} : vcall (F PP shF) shF base nt dst 156 args frz H = (mapO (frzD H 6) args).bind (vpure PP shF base dst 156 (closedL args) frz H) := vcall_pure sh156
@[go_sem] theorem ve156 {base nt : Nat} {dst : Option Nat} {args : List DV} {frz : Bool} {H : VHeap} : vcallE (F PP shF) shF base nt 156 args dst frz H = (mapO (frzD H 6) args).bind (vpure PP shF base dst 156 (closedL args) frz H) := vcallE_pure sh156
theorem PP157 : PP 157 = some ir157 := rfl
@[go_sem] theorem sh157 : shF 157 = true := rfl
@[go_sem] theorem vc157 {base nt : Nat} {dst : Option Nat} {args : List DV} {H : VHeap} : vcall (F PP shF) shF base nt dst 157 args false H = (F PP shF 157 args H (max H.length (base + nt))).map fun r => (r.1, some r.2) := vcall_sh sh157
@[go_sem] theorem ve157 {base nt : Nat} {dst : Option Nat} {args : List DV} {H : VHeap} : vcallE (F PP shF) shF base nt 157 args dst false H = (F PP shF 157 args (keepV H (args.map refD).flatten) (max H.length (base + nt))).map fun r => (r.1, some (mergeV H (args.map refD).flatten r.2)) := vcallE_sh sh157
theorem PP158 : PP 158 = some ir158 := rfl
@[go_sem] theorem sh158 : shF 158 = true := rfl
@[go_sem] theorem vc158 {base nt : Nat} {dst : Option Nat} {args : List DV} {H : VHeap} : vcall (F PP shF) shF base nt dst 158 args false H = (F PP shF 158 args H (max H.length (base + nt))).map fun r => (r.1, some r.2) := vcall_sh sh158
@[go_sem] theorem ve158 {base nt : Nat} {dst : Option Nat} {args : List DV} {H : VHeap} : vcallE (F PP shF) shF base nt 158 args dst false H = (F PP shF 158 args (keepV H (args.map refD).flatten) (max H.length (base + nt))).map fun r => (r.1, some (mergeV H (args.map refD).flatten r.2)) := vcallE_sh sh158
theorem PP159 : PP 159 = some ir159 := rfl
@[go_sem] theorem sh159 : shF 159 = true := rfl
@[go_sem] theorem vc159 {base nt : Nat} {dst : Option Nat} {args : List DV} {H : VHeap} : vcall (F PP shF) shF base nt dst 159 args false H = (F PP shF 159 args H (max H.length (base + nt))).map fun r => (r.1, some r.2) := vcall_sh sh159
@[go_sem] theorem ve159 {base nt : Nat} {dst : Option Nat} {args : List DV} {H : VHeap} : vcallE (F PP shF) shF base nt 159 args dst false H = (F PP shF 159 args (keepV H (args.map refD).flatten) (max H.length (base + nt))).map fun r => (r.1, some (mergeV H (args.map refD).flatten r.2)) := vcallE_sh sh159
theorem PP160 : PP 160 = some ir160 := rfl
@[go_sem] theorem sh160 : shF 160 = true := rfl
@[go_sem] theorem vc160 {base nt : Nat} {dst : Option Nat} {args : List DV} {H : VHeap} : vcall (F PP shF) shF base nt dst 160 args false H = (F PP shF 160 args H (max H.length (base + nt))).map fun r => (r.1, some r.2) := vcall_sh sh160
@[go_sem] theorem ve160 {base nt : Nat} {dst : Option Nat} {args : List DV} {H : VHeap} : vcallE (F PP shF) shF base nt 160 args dst false H = (F PP shF 160 args (keepV H (args.map refD).flatten) (max H.length (base + nt))).map fun r => (r.1, some (mergeV H (args.map refD).flatten r.2)) := vcallE_sh sh160
theorem PP161 : PP 161 = some ir161 := rfl
@[go_sem] theorem sh161 : shF 161 = true := rfl
@[go_sem] theorem vc161 {base nt : Nat} {dst : Option Nat} {args : List DV} {H : VHeap} : vcall (F PP shF) shF base nt dst 161 args false H = (F PP shF 161 args H (max H.length (base + nt))).map fun r => (r.1, some r.2) := vcall_sh sh161
@[go_sem] theorem ve161 {base nt : Nat} {dst : Option Nat} {args : List DV} {H : VHeap} : vcallE (F PP shF) shF base nt 161 args dst false H = (F PP shF 161 args (keepV H (args.map refD).flatten) (max H.length (base + nt))).map fun r => (r.1, some (mergeV H (args.map refD).flatten r.2)) := vcallE_sh sh161
theorem PP162 : PP 162 = some ir162 := rfl
@[go_sem] theorem sh162 : shF 162 = true := rfl
@[go_sem] theorem vc162 {base nt : Nat} {dst : Option Nat} {args : List DV} {H : VHeap} : vcall (F PP shF) shF base nt dst 162 args false H = (F PP shF 162 args H (max H.length (base + nt))).map fun r => (r.1, some r.2) := vcall_sh sh162
@[go_sem] theorem ve162 {base nt : Nat} {dst : Option Nat} {args : List DV} {H : VHeap} : vcallE (F PP shF) shF base nt 162 args dst false H = (F PP shF 162 args (keepV H (args.map refD).flatten) (max H.length (base + nt))).map fun r => (r.1, some (mergeV H (args.map refD).flatten r.2)) := vcallE_sh sh162
theorem PP163 : PP 163 = some ir163 := rfl
@[go_sem] theorem sh163 : shF 163 = true := rfl
@[go_sem] theorem vc163 {base nt : Nat} {dst : Option Nat} {args : List DV} {H : VHeap} : vcall (F PP shF) shF base nt dst 163 args false H = (F PP shF 163 args H (max H.length (base + nt))).map fun r => (r.1, some r.2) := vcall_sh sh163
@[go_sem] theorem ve163 {base nt : Nat} {dst : Option Nat} {args : List DV} {H : VHeap} : vcallE (F PP shF) shF base nt 163 args dst false H = (F PP shF 163 args (keepV H (args.map refD).flatten) (max H.length (base + nt))).map fun r => (r.1, some (mergeV H (args.map refD).flatten r.2)) := vcallE_sh sh163
theorem PP164 : PP 164 = some ir164 := rfl
@[go_sem] theorem sh164 : shF 164 = true := rfl
@[go_sem] theorem vc164 {base nt : Nat} {dst : Option Nat} {args : List DV} {H : VHeap} : vcall (F PP shF) shF base nt dst 164 args false H = (F PP shF 164 args H (max H.length (base + nt))).map fun r => (r.1, some r.2) := vcall_sh sh164
@[go_sem] theorem ve164 {base nt : Nat} {dst : Option Nat} {args : List DV} {H : VHeap} : vcallE (F PP shF) shF base nt 164 args dst false H = (F PP shF 164 args (keepV H (args.map refD).flatten) (max H.length (base + nt))).map fun r => (r.1, some (mergeV H (args.map refD).flatten r.2)) := vcallE_sh sh164
theorem PP165 : PP 165 = some ir165 := rfl
@[go_sem] theorem sh165 : shF 165 = false := rfl
@[go_sem] theorem vc165 {base nt : Nat} {dst : Option Nat} {args : List DV} {frz : Bool} {H : VHeap} : vcall (F PP shF) shF base nt dst 165 args frz H = (mapO (frzD H 6) args).bind (vpure PP shF base dst 165 (closedL args) frz H) := vcall_pure sh165
@[go_sem] theorem ve165 {base nt : Nat} {dst : Option Nat} {args : List DV} {frz : Bool} {H : VHeap} : vcallE (F PP shF) shF base nt 165 args dst frz H = (mapO (frzD H 6) args).bind (vpure PP shF base dst 165 (closedL args) frz H) := vcallE_pure sh165
theorem PP166 : PP 166 = some ir166 := rfl
@[go_sem] theorem sh166 : shF 166 = false := rfl
@[go_sem] theorem vc166 {base nt : Nat} {dst : Option Nat} {args : List DV} {frz : Bool} {H : VHeap} : vcall (F PP shF) shF base nt dst 166 args frz H = (mapO (frzD H 6) args).bind (vpure PP shF base dst 166 (closedL args) frz H) := vcall_pure sh166
@[go_sem] theorem ve166 {base nt : Nat} {dst : Option Nat} {args : List DV} {frz : Bool} {H : VHeap} : vcallE (F PP shF) shF base nt 166 args dst frz H = (mapO (frzD H 6) args).bind (vpure PP shF base dst 166 (closedL args) frz H) := vcallE_pure sh166
theorem PP167 : PP 167 = some ir167 := rfl
@[go_sem] theorem sh167 : shF 167 = true := rfl
@[go_sem] theorem vc167 {base nt : Nat} {dst : Option Nat} {args : List DV} {H : VHeap} : vcall (F PP shF) shF base nt dst 167 args false H = (F PP shF 167 args H (max H.length (base + nt))).map fun r => (r.1, some r.2) := vcall_sh sh167
@[go_sem] theorem ve167 {base nt : Nat} {dst : Option Nat} {args : List DV} {H : VHeap} : vcallE (F PP shF) shF base nt 167 args dst false H = (F PP shF 167 args (keepV H (args.map refD).flatten) (max H.length (base + nt))).map fun r => (r.1, some (mergeV H (args.map refD).flatten r.2)) := vcallE_sh sh167
theorem PP168 : PP 168 = some ir168 := rfl
@[go_sem] theorem sh168 : shF 168 = false := rfl
@[go_sem] theorem vc168 {base nt : Nat} {dst : Option Nat} {args : List DV} {frz : Bool} {H : VHeap} : vcall (F PP shF) shF base nt dst 168 args frz H = (mapO (frzD H 6) args).bind (vpure PP shF base dst 168 (closedL args) frz H) := vcall_pure sh168
@[go_sem] theorem ve168 {base nt : Nat} {dst : Option Nat} {args : List DV} {frz : Bool} {H : VHeap} : vcallE (F PP shF) shF base nt 168 args dst frz H = (mapO (frzD H 6) args).bind (vpure PP shF base dst 168 (closedL args) frz H) := vcallE_pure sh168
theorem PP169 : PP 169 = some ir169 := rfl
@[go_sem] theorem sh169 : shF 169 = true := rfl
@[go_sem] theorem vc169 {base nt : Nat} {dst : Option Nat} {args : List DV} {H : VHeap} : vcall (F PP shF) shF base nt dst 169 args false H = (F PP shF 169 args H (max H.length (base + nt))).map fun r => (r.1, some r.2) := vcall_sh sh169
@[go_sem] theorem ve169 {base nt : Nat} {dst : Option Nat} {args : List DV} {H : VHeap} : vcallE (F PP shF) shF base nt 169 args dst false H = (F PP shF 169 args (keepV H (args.map refD).flatten) (max H.length (base + nt))).map fun r => (r.1, some (mergeV H (args.map refD).flatten r.2)) := vcallE_sh sh169
theorem PP170 : PP 170 = some ir170 := rfl
@[go_sem] theorem sh170 : shF 170 = true := rfl
@[go_sem] theorem vc170 {base nt : Nat} {dst : Option Nat} {args : List DV} {H : VHeap} : vcall (F PP shF) shF base nt dst 170 args false H = (F PP shF 170 args H (max H.length (base + nt))).map fun r => (r.1, some r.2) := vcall_sh sh170
@[go_sem] theorem ve170 {base nt : Nat} {dst : Option Nat} {args : List DV} {H : VHeap} : vcallE (F PP shF) shF base nt 170 args dst false H = (F PP shF 170 args (keepV H (args.map refD).flatten) (max H.length (base + nt))).map fun r => (r.1, some (mergeV H (args.map refD).flatten r.2)) := vcallE_sh sh170
theorem PP171 : PP 171 = some ir171 := rfl
@[go_sem] theorem sh171 : shF 171 = true := rfl
@[go_sem] theorem vc171 {base nt : Nat} {dst : Option Nat} {args : List DV} {H : VHeap} : vcall (F PP shF) shF base nt dst 171 args false H = (F PP shF 171 args H (max H.length (base + nt))).map fun r => (r.1, some r.2) := vcall_sh sh171
@[go_sem] theorem ve171 {base nt : Nat} {dst : Option Nat} {args : List DV} {H : VHeap} : vcallE (F PP shF) shF base nt 171 args dst false H = (F PP shF 171 args (keepV H (args.map refD).flatten) (max H.length (base + nt))).map fun r => (r.1, some (mergeV H (args.map refD).flatten r.2)) := vcallE_sh sh171
theorem PP172 : PP 172 = some ir172 := rfl
@[go_sem] theorem sh172 : shF 172 = true := rfl
@[go_sem] theorem vc172 {base nt : Nat} {dst : Option Nat} {args : List DV} {H : VHeap} : vcall (F PP shF) shF base nt dst 172 args false H = (F PP shF 172 args H (max H.length (base + nt))).map fun r => (r.1, some r.2) := vcall_sh sh172
@[go_sem] theorem ve172 {base nt : Nat} {dst : Option Nat} {args : List DV} {H : VHeap} : vcallE (F PP shF) shF base nt 172 args dst false H = (F PP shF 172 args (keepV H (args.map refD).flatten) (max H.length (base + nt))).map fun r => (r.1, some (mergeV H (args.map refD).flatten r.2)) := vcallE_sh sh172

end Go.Proofs.Cp
