/- The program, as the machine has it (written by mkglobal.py). -/
import Derived.Test.YtbgdpdkkbmlhdaaIr0
import Derived.Test.YtbgdpdkkbmlhdaaCpOk
set_option maxRecDepth 100000
set_option linter.unusedVariables false
namespace Go.Proofs.Cp
open Go
def shL : List Nat := [49, 50, 51, 61, 62, 78]
def shF (f : Nat) : Bool := shL.contains f
def tblPP : List (Nat × IFun) := [(11, ir11), (14, ir14), (15, ir15), (16, ir16), (25, ir25), (28, ir28), (30, ir30), (31, ir31), (37, ir37), (39, ir39), (40, ir40), (41, ir41), (48, ir48), (49, ir49), (50, ir50), (51, ir51), (52, ir52), (53, ir53), (56, ir56), (57, ir57), (58, ir58), (59, ir59), (61, ir61), (62, ir62), (63, ir63), (64, ir64), (65, ir65), (66, ir66), (67, ir67), (68, ir68), (69, ir69), (73, ir73), (76, ir76), (77, ir77), (78, ir78), (79, ir79), (90, ir90), (91, ir91), (103, ir103), (104, ir104), (114, ir114), (115, ir115), (126, ir126), (218, ir218), (220, ir220), (225, ir225), (226, ir226), (227, ir227), (228, ir228), (229, ir229), (230, ir230), (232, ir232), (234, ir234), (236, ir236), (237, ir237), (238, ir238), (239, ir239), (240, ir240), (241, ir241), (242, ir242), (244, ir244), (245, ir245), (246, ir246)]
def lkp (f : Nat) : List (Nat × IFun) → Option IFun
  | [] => none
  | p :: l => if p.1 = f then some p.2 else lkp f l
def PP : Prog := fun f => lkp f tblPP
theorem lkp_mem {f : Nat} {fn : IFun} : ∀ {l : List (Nat × IFun)}, lkp f l = some fn → (f, fn) ∈ l
  | [], h => by simp [lkp] at h
  | p :: l, h => by
    simp only [lkp] at h
    split at h
    · rename_i hp; simp at h; subst h; subst hp; simp
    · exact List.mem_cons_of_mem _ (lkp_mem h)
theorem PP11 : PP 11 = some ir11 := rfl
@[go_sem] theorem sh11 : shF 11 = false := rfl
@[go_sem] theorem vc11 {base nt : Nat} {dst : Option Nat} {args : List DV} {frz : Bool} {H : VHeap} : vcall (F PP shF) shF base nt dst 11 args frz H = (mapO (frzD H 6) args).bind (vpure PP shF base dst 11 (closedL args) frz H) := vcall_pure sh11
@[go_sem] theorem ve11 {base nt : Nat} {dst : Option Nat} {args : List DV} {frz : Bool} {H : VHeap} : vcallE (F PP shF) shF base nt 11 args dst frz H = (mapO (frzD H 6) args).bind (vpure PP shF base dst 11 (closedL args) frz H) := vcallE_pure sh11
theorem PP14 : PP 14 = some ir14 := rfl
@[go_sem] theorem sh14 : shF 14 = false := rfl
@[go_sem] theorem vc14 {base nt : Nat} {dst : Option Nat} {args : List DV} {frz : Bool} {H : VHeap} : vcall (F PP shF) shF base nt dst 14 args frz H = (mapO (frzD H 6) args).bind (vpure PP shF base dst 14 (closedL args) frz H) := vcall_pure sh14
@[go_sem] theorem ve14 {base nt : Nat} {dst : Option Nat} {args : List DV} {frz : Bool} {H : VHeap} : vcallE (F PP shF) shF base nt 14 args dst frz H = (mapO (frzD H 6) args).bind (vpure PP shF base dst 14 (closedL args) frz H) := vcallE_pure sh14
theorem PP15 : PP 15 = some ir15 := rfl
@[go_sem] theorem sh15 : shF 15 = false := rfl
@[go_sem] theorem vc15 {base nt : Nat} {dst : Option Nat} {args : List DV} {frz : Bool} {H : VHeap} : vcall (F PP shF) shF base nt dst 15 args frz H = (mapO (frzD H 6) args).bind (vpure PP shF base dst 15 (closedL args) frz H) := vcall_pure sh15
@[go_sem] theorem ve15 {base nt : Nat} {dst : Option Nat} {args : List DV} {frz : Bool} {H : VHeap} : vcallE (F PP shF) shF base nt 15 args dst frz H = (mapO (frzD H 6) args).bind (vpure PP shF base dst 15 (closedL args) frz H) := vcallE_pure sh15
theorem PP16 : PP 16 = some ir16 := rfl
@[go_sem] theorem sh16 : shF 16 = false := rfl
@[go_sem] theorem vc16 {base nt : Nat} {dst : Option Nat} {args : List DV} {frz : Bool} {H : VHeap} : vcall (F PP shF) shF base nt dst 16 args frz H = (mapO (frzD H 6) args).bind (vpure PP shF base dst 16 (closedL args) frz H) := vcall_pure sh16
@[go_sem] theorem ve16 {base nt : Nat} {dst : Option Nat} {args : List DV} {frz : Bool} {H : VHeap} : vcallE (F PP shF) shF base nt 16 args dst frz H = (mapO (frzD H 6) args).bind (vpure PP shF base dst 16 (closedL args) frz H) := vcallE_pure sh16
theorem PP25 : PP 25 = some ir25 := rfl
@[go_sem] theorem sh25 : shF 25 = false := rfl
@[go_sem] theorem vc25 {base nt : Nat} {dst : Option Nat} {args : List DV} {frz : Bool} {H : VHeap} : vcall (F PP shF) shF base nt dst 25 args frz H = (mapO (frzD H 6) args).bind (vpure PP shF base dst 25 (closedL args) frz H) := vcall_pure sh25
@[go_sem] theorem ve25 {base nt : Nat} {dst : Option Nat} {args : List DV} {frz : Bool} {H : VHeap} : vcallE (F PP shF) shF base nt 25 args dst frz H = (mapO (frzD H 6) args).bind (vpure PP shF base dst 25 (closedL args) frz H) := vcallE_pure sh25
theorem PP28 : PP 28 = some ir28 := rfl
@[go_sem] theorem sh28 : shF 28 = false := rfl
@[go_sem] theorem vc28 {base nt : Nat} {dst : Option Nat} {args : List DV} {frz : Bool} {H : VHeap} : vcall (F PP shF) shF base nt dst 28 args frz H = (mapO (frzD H 6) args).bind (vpure PP shF base dst 28 (closedL args) frz H) := vcall_pure sh28
@[go_sem] theorem ve28 {base nt : Nat} {dst : Option Nat} {args : List DV} {frz : Bool} {H : VHeap} : vcallE (F PP shF) shF base nt 28 args dst frz H = (mapO (frzD H 6) args).bind (vpure PP shF base dst 28 (closedL args) frz H) := vcallE_pure sh28
theorem PP30 : PP 30 = some ir30 := rfl
@[go_sem] theorem sh30 : shF 30 = false := rfl
@[go_sem] theorem vc30 {base nt : Nat} {dst : Option Nat} {args : List DV} {frz : Bool} {H : VHeap} : vcall (F PP shF) shF base nt dst 30 args frz H = (mapO (frzD H 6) args).bind (vpure PP shF base dst 30 (closedL args) frz H) := vcall_pure sh30
@[go_sem] theorem ve30 {base nt : Nat} {dst : Option Nat} {args : List DV} {frz : Bool} {H : VHeap} : vcallE (F PP shF) shF base nt 30 args dst frz H = (mapO (frzD H 6) args).bind (vpure PP shF base dst 30 (closedL args) frz H) := vcallE_pure sh30
theorem PP31 : PP 31 = some ir31 := rfl
@[go_sem] theorem sh31 : shF 31 = false := rfl
@[go_sem] theorem vc31 {base nt : Nat} {dst : Option Nat} {args : List DV} {frz : Bool} {H : VHeap} : vcall (F PP shF) shF base nt dst 31 args frz H = (mapO (frzD H 6) args).bind (vpure PP shF base dst 31 (closedL args) frz H) := vcall_pure sh31
@[go_sem] theorem ve31 {base nt : Nat} {dst : Option Nat} {args : List DV} {frz : Bool} {H : VHeap} : vcallE (F PP shF) shF base nt 31 args dst frz H = (mapO (frzD H 6) args).bind (vpure PP shF base dst 31 (closedL args) frz H) := vcallE_pure sh31
theorem PP37 : PP 37 = some ir37 := rfl
@[go_sem] theorem sh37 : shF 37 = false := rfl
@[go_sem] theorem vc37 {base nt : Nat} {dst : Option Nat} {args : List DV} {frz : Bool} {H : VHeap} : vcall (F PP shF) shF base nt dst 37 args frz H = (mapO (frzD H 6) args).bind (vpure PP shF base dst 37 (closedL args) frz H) := vcall_pure sh37
@[go_sem] theorem ve37 {base nt : Nat} {dst : Option Nat} {args : List DV} {frz : Bool} {H : VHeap} : vcallE (F PP shF) shF base nt 37 args dst frz H = (mapO (frzD H 6) args).bind (vpure PP shF base dst 37 (closedL args) frz H) := vcallE_pure sh37
theorem PP39 : PP 39 = some ir39 := rfl
@[go_sem] theorem sh39 : shF 39 = false := rfl
@[go_sem] theorem vc39 {base nt : Nat} {dst : Option Nat} {args : List DV} {frz : Bool} {H : VHeap} : vcall (F PP shF) shF base nt dst 39 args frz H = (mapO (frzD H 6) args).bind (vpure PP shF base dst 39 (closedL args) frz H) := vcall_pure sh39
@[go_sem] theorem ve39 {base nt : Nat} {dst : Option Nat} {args : List DV} {frz : Bool} {H : VHeap} : vcallE (F PP shF) shF base nt 39 args dst frz H = (mapO (frzD H 6) args).bind (vpure PP shF base dst 39 (closedL args) frz H) := vcallE_pure sh39
theorem PP40 : PP 40 = some ir40 := rfl
@[go_sem] theorem sh40 : shF 40 = false := rfl
@[go_sem] theorem vc40 {base nt : Nat} {dst : Option Nat} {args : List DV} {frz : Bool} {H : VHeap} : vcall (F PP shF) shF base nt dst 40 args frz H = (mapO (frzD H 6) args).bind (vpure PP shF base dst 40 (closedL args) frz H) := vcall_pure sh40
@[go_sem] theorem ve40 {base nt : Nat} {dst : Option Nat} {args : List DV} {frz : Bool} {H : VHeap} : vcallE (F PP shF) shF base nt 40 args dst frz H = (mapO (frzD H 6) args).bind (vpure PP shF base dst 40 (closedL args) frz H) := vcallE_pure sh40
theorem PP41 : PP 41 = some ir41 := rfl
@[go_sem] theorem sh41 : shF 41 = false := rfl
@[go_sem] theorem vc41 {base nt : Nat} {dst : Option Nat} {args : List DV} {frz : Bool} {H : VHeap} : vcall (F PP shF) shF base nt dst 41 args frz H = (mapO (frzD H 6) args).bind (vpure PP shF base dst 41 (closedL args) frz H) := vcall_pure sh41
@[go_sem] theorem ve41 {base nt : Nat} {dst : Option Nat} {args : List DV} {frz : Bool} {H : VHeap} : vcallE (F PP shF) shF base nt 41 args dst frz H = (mapO (frzD H 6) args).bind (vpure PP shF base dst 41 (closedL args) frz H) := vcallE_pure sh41
theorem PP48 : PP 48 = some ir48 := rfl
@[go_sem] theorem sh48 : shF 48 = false := rfl
@[go_sem] theorem vc48 {base nt : Nat} {dst : Option Nat} {args : List DV} {frz : Bool} {H : VHeap} : vcall (F PP shF) shF base nt dst 48 args frz H = (mapO (frzD H 6) args).bind (vpure PP shF base dst 48 (closedL args) frz H) := vcall_pure sh48
@[go_sem] theorem ve48 {base nt : Nat} {dst : Option Nat} {args : List DV} {frz : Bool} {H : VHeap} : vcallE (F PP shF) shF base nt 48 args dst frz H = (mapO (frzD H 6) args).bind (vpure PP shF base dst 48 (closedL args) frz H) := vcallE_pure sh48
theorem PP49 : PP 49 = some ir49 := rfl
@[go_sem] theorem sh49 : shF 49 = true := rfl
@[go_sem] theorem vc49 {base nt : Nat} {dst : Option Nat} {args : List DV} {H : VHeap} : vcall (F PP shF) shF base nt dst 49 args false H = (F PP shF 49 args H (max H.length (base + nt))).map fun r => (r.1, some r.2) := vcall_sh sh49
@[go_sem] theorem ve49 {base nt : Nat} {dst : Option Nat} {args : List DV} {H : VHeap} : vcallE (F PP shF) shF base nt 49 args dst false H = (F PP shF 49 args (keepV H (args.map refD).flatten) (max H.length (base + nt))).map fun r => (r.1, some (mergeV H (args.map refD).flatten r.2)) := vcallE_sh sh49
theorem PP50 : PP 50 = some ir50 := rfl
@[go_sem] theorem sh50 : shF 50 = true := rfl
@[go_sem] theorem vc50 {base nt : Nat} {dst : Option Nat} {args : List DV} {H : VHeap} : vcall (F PP shF) shF base nt dst 50 args false H = (F PP shF 50 args H (max H.length (base + nt))).map fun r => (r.1, some r.2) := vcall_sh sh50
@[go_sem] theorem ve50 {base nt : Nat} {dst : Option Nat} {args : List DV} {H : VHeap} : vcallE (F PP shF) shF base nt 50 args dst false H = (F PP shF 50 args (keepV H (args.map refD).flatten) (max H.length (base + nt))).map fun r => (r.1, some (mergeV H (args.map refD).flatten r.2)) := vcallE_sh sh50
theorem PP51 : PP 51 = some ir51 := rfl
@[go_sem] theorem sh51 : shF 51 = true := rfl
@[go_sem] theorem vc51 {base nt : Nat} {dst : Option Nat} {args : List DV} {H : VHeap} : vcall (F PP shF) shF base nt dst 51 args false H = (F PP shF 51 args H (max H.length (base + nt))).map fun r => (r.1, some r.2) := vcall_sh sh51
@[go_sem] theorem ve51 {base nt : Nat} {dst : Option Nat} {args : List DV} {H : VHeap} : vcallE (F PP shF) shF base nt 51 args dst false H = (F PP shF 51 args (keepV H (args.map refD).flatten) (max H.length (base + nt))).map fun r => (r.1, some (mergeV H (args.map refD).flatten r.2)) := vcallE_sh sh51
theorem PP52 : PP 52 = some ir52 := rfl
@[go_sem] theorem sh52 : shF 52 = false := rfl
@[go_sem] theorem vc52 {base nt : Nat} {dst : Option Nat} {args : List DV} {frz : Bool} {H : VHeap} : vcall (F PP shF) shF base nt dst 52 args frz H = (mapO (frzD H 6) args).bind (vpure PP shF base dst 52 (closedL args) frz H) := vcall_pure sh52
@[go_sem] theorem ve52 {base nt : Nat} {dst : Option Nat} {args : List DV} {frz : Bool} {H : VHeap} : vcallE (F PP shF) shF base nt 52 args dst frz H = (mapO (frzD H 6) args).bind (vpure PP shF base dst 52 (closedL args) frz H) := vcallE_pure sh52
theorem PP53 : PP 53 = some ir53 := rfl
@[go_sem] theorem sh53 : shF 53 = false := rfl
@[go_sem] theorem vc53 {base nt : Nat} {dst : Option Nat} {args : List DV} {frz : Bool} {H : VHeap} : vcall (F PP shF) shF base nt dst 53 args frz H = (mapO (frzD H 6) args).bind (vpure PP shF base dst 53 (closedL args) frz H) := vcall_pure sh53
@[go_sem] theorem ve53 {base nt : Nat} {dst : Option Nat} {args : List DV} {frz : Bool} {H : VHeap} : vcallE (F PP shF) shF base nt 53 args dst frz H = (mapO (frzD H 6) args).bind (vpure PP shF base dst 53 (closedL args) frz H) := vcallE_pure sh53
theorem PP56 : PP 56 = some ir56 := rfl
@[go_sem] theorem sh56 : shF 56 = false := rfl
@[go_sem] theorem vc56 {base nt : Nat} {dst : Option Nat} {args : List DV} {frz : Bool} {H : VHeap} : vcall (F PP shF) shF base nt dst 56 args frz H = (mapO (frzD H 6) args).bind (vpure PP shF base dst 56 (closedL args) frz H) := vcall_pure sh56
@[go_sem] theorem ve56 {base nt : Nat} {dst : Option Nat} {args : List DV} {frz : Bool} {H : VHeap} : vcallE (F PP shF) shF base nt 56 args dst frz H = (mapO (frzD H 6) args).bind (vpure PP shF base dst 56 (closedL args) frz H) := vcallE_pure sh56
theorem PP57 : PP 57 = some ir57 := rfl
@[go_sem] theorem sh57 : shF 57 = false := rfl
@[go_sem] theorem vc57 {base nt : Nat} {dst : Option Nat} {args : List DV} {frz : Bool} {H : VHeap} : vcall (F PP shF) shF base nt dst 57 args frz H = (mapO (frzD H 6) args).bind (vpure PP shF base dst 57 (closedL args) frz H) := vcall_pure sh57
@[go_sem] theorem ve57 {base nt : Nat} {dst : Option Nat} {args : List DV} {frz : Bool} {H : VHeap} : vcallE (F PP shF) shF base nt 57 args dst frz H = (mapO (frzD H 6) args).bind (vpure PP shF base dst 57 (closedL args) frz H) := vcallE_pure sh57
theorem PP58 : PP 58 = some ir58 := rfl
@[go_sem] theorem sh58 : shF 58 = false := rfl
@[go_sem] theorem vc58 {base nt : Nat} {dst : Option Nat} {args : List DV} {frz : Bool} {H : VHeap} : vcall (F PP shF) shF base nt dst 58 args frz H = (mapO (frzD H 6) args).bind (vpure PP shF base dst 58 (closedL args) frz H) := vcall_pure sh58
@[go_sem] theorem ve58 {base nt : Nat} {dst : Option Nat} {args : List DV} {frz : Bool} {H : VHeap} : vcallE (F PP shF) shF base nt 58 args dst frz H = (mapO (frzD H 6) args).bind (vpure PP shF base dst 58 (closedL args) frz H) := vcallE_pure sh58
theorem PP59 : PP 59 = some ir59 := rfl
@[go_sem] theorem sh59 : shF 59 = false := rfl
@[go_sem] theorem vc59 {base nt : Nat} {dst : Option Nat} {args : List DV} {frz : Bool} {H : VHeap} : vcall (F PP shF) shF base nt dst 59 args frz H = (mapO (frzD H 6) args).bind (vpure PP shF base dst 59 (closedL args) frz H) := vcall_pure sh59
@[go_sem] theorem ve59 {base nt : Nat} {dst : Option Nat} {args : List DV} {frz : Bool} {H : VHeap} : vcallE (F PP shF) shF base nt 59 args dst frz H = (mapO (frzD H 6) args).bind (vpure PP shF base dst 59 (closedL args) frz H) := vcallE_pure sh59
theorem PP61 : PP 61 = some ir61 := rfl
@[go_sem] theorem sh61 : shF 61 = true := rfl
@[go_sem] theorem vc61 {base nt : Nat} {dst : Option Nat} {args : List DV} {H : VHeap} : vcall (F PP shF) shF base nt dst 61 args false H = (F PP shF 61 args H (max H.length (base + nt))).map fun r => (r.1, some r.2) := vcall_sh sh61
@[go_sem] theorem ve61 {base nt : Nat} {dst : Option Nat} {args : List DV} {H : VHeap} : vcallE (F PP shF) shF base nt 61 args dst false H = (F PP shF 61 args (keepV H (args.map refD).flatten) (max H.length (base + nt))).map fun r => (r.1, some (mergeV H (args.map refD).flatten r.2)) := vcallE_sh sh61
theorem PP62 : PP 62 = some ir62 := rfl
@[go_sem] theorem sh62 : shF 62 = true := rfl
@[go_sem] theorem vc62 {base nt : Nat} {dst : Option Nat} {args : List DV} {H : VHeap} : vcall (F PP shF) shF base nt dst 62 args false H = (F PP shF 62 args H (max H.length (base + nt))).map fun r => (r.1, some r.2) := vcall_sh sh62
@[go_sem] theorem ve62 {base nt : Nat} {dst : Option Nat} {args : List DV} {H : VHeap} : vcallE (F PP shF) shF base nt 62 args dst false H = (F PP shF 62 args (keepV H (args.map refD).flatten) (max H.length (base + nt))).map fun r => (r.1, some (mergeV H (args.map refD).flatten r.2)) := vcallE_sh sh62
theorem PP63 : PP 63 = some ir63 := rfl
@[go_sem] theorem sh63 : shF 63 = false := rfl
@[go_sem] theorem vc63 {base nt : Nat} {dst : Option Nat} {args : List DV} {frz : Bool} {H : VHeap} : vcall (F PP shF) shF base nt dst 63 args frz H = (mapO (frzD H 6) args).bind (vpure PP shF base dst 63 (closedL args) frz H) := vcall_pure sh63
@[go_sem] theorem ve63 {base nt : Nat} {dst : Option Nat} {args : List DV} {frz : Bool} {H : VHeap} : vcallE (F PP shF) shF base nt 63 args dst frz H = (mapO (frzD H 6) args).bind (vpure PP shF base dst 63 (closedL args) frz H) := vcallE_pure sh63
theorem PP64 : PP 64 = some ir64 := rfl
@[go_sem] theorem sh64 : shF 64 = false := rfl
@[go_sem] theorem vc64 {base nt : Nat} {dst : Option Nat} {args : List DV} {frz : Bool} {H : VHeap} : vcall (F PP shF) shF base nt dst 64 args frz H = (mapO (frzD H 6) args).bind (vpure PP shF base dst 64 (closedL args) frz H) := vcall_pure sh64
@[go_sem] theorem ve64 {base nt : Nat} {dst : Option Nat} {args : List DV} {frz : Bool} {H : VHeap} : vcallE (F PP shF) shF base nt 64 args dst frz H = (mapO (frzD H 6) args).bind (vpure PP shF base dst 64 (closedL args) frz H) := vcallE_pure sh64
theorem PP65 : PP 65 = some ir65 := rfl
@[go_sem] theorem sh65 : shF 65 = false := rfl
@[go_sem] theorem vc65 {base nt : Nat} {dst : Option Nat} {args : List DV} {frz : Bool} {H : VHeap} : vcall (F PP shF) shF base nt dst 65 args frz H = (mapO (frzD H 6) args).bind (vpure PP shF base dst 65 (closedL args) frz H) := vcall_pure sh65
@[go_sem] theorem ve65 {base nt : Nat} {dst : Option Nat} {args : List DV} {frz : Bool} {H : VHeap} : vcallE (F PP shF) shF base nt 65 args dst frz H = (mapO (frzD H 6) args).bind (vpure PP shF base dst 65 (closedL args) frz H) := vcallE_pure sh65
theorem PP66 : PP 66 = some ir66 := rfl
@[go_sem] theorem sh66 : shF 66 = false := rfl
@[go_sem] theorem vc66 {base nt : Nat} {dst : Option Nat} {args : List DV} {frz : Bool} {H : VHeap} : vcall (F PP shF) shF base nt dst 66 args frz H = (mapO (frzD H 6) args).bind (vpure PP shF base dst 66 (closedL args) frz H) := vcall_pure sh66
@[go_sem] theorem ve66 {base nt : Nat} {dst : Option Nat} {args : List DV} {frz : Bool} {H : VHeap} : vcallE (F PP shF) shF base nt 66 args dst frz H = (mapO (frzD H 6) args).bind (vpure PP shF base dst 66 (closedL args) frz H) := vcallE_pure sh66
theorem PP67 : PP 67 = some ir67 := rfl
@[go_sem] theorem sh67 : shF 67 = false := rfl
@[go_sem] theorem vc67 {base nt : Nat} {dst : Option Nat} {args : List DV} {frz : Bool} {H : VHeap} : vcall (F PP shF) shF base nt dst 67 args frz H = (mapO (frzD H 6) args).bind (vpure PP shF base dst 67 (closedL args) frz H) := vcall_pure sh67
@[go_sem] theorem ve67 {base nt : Nat} {dst : Option Nat} {args : List DV} {frz : Bool} {H : VHeap} : vcallE (F PP shF) shF base nt 67 args dst frz H = (mapO (frzD H 6) args).bind (vpure PP shF base dst 67 (closedL args) frz H) := vcallE_pure sh67
theorem PP68 : PP 68 = some ir68 := rfl
@[go_sem] theorem sh68 : shF 68 = false := rfl
@[go_sem] theorem vc68 {base nt : Nat} {dst : Option Nat} {args : List DV} {frz : Bool} {H : VHeap} : vcall (F PP shF) shF base nt dst 68 args frz H = (mapO (frzD H 6) args).bind (vpure PP shF base dst 68 (closedL args) frz H) := vcall_pure sh68
@[go_sem] theorem ve68 {base nt : Nat} {dst : Option Nat} {args : List DV} {frz : Bool} {H : VHeap} : vcallE (F PP shF) shF base nt 68 args dst frz H = (mapO (frzD H 6) args).bind (vpure PP shF base dst 68 (closedL args) frz H) := vcallE_pure sh68
theorem PP69 : PP 69 = some ir69 := rfl
@[go_sem] theorem sh69 : shF 69 = false := rfl
@[go_sem] theorem vc69 {base nt : Nat} {dst : Option Nat} {args : List DV} {frz : Bool} {H : VHeap} : vcall (F PP shF) shF base nt dst 69 args frz H = (mapO (frzD H 6) args).bind (vpure PP shF base dst 69 (closedL args) frz H) := vcall_pure sh69
@[go_sem] theorem ve69 {base nt : Nat} {dst : Option Nat} {args : List DV} {frz : Bool} {H : VHeap} : vcallE (F PP shF) shF base nt 69 args dst frz H = (mapO (frzD H 6) args).bind (vpure PP shF base dst 69 (closedL args) frz H) := vcallE_pure sh69
theorem PP73 : PP 73 = some ir73 := rfl
@[go_sem] theorem sh73 : shF 73 = false := rfl
@[go_sem] theorem vc73 {base nt : Nat} {dst : Option Nat} {args : List DV} {frz : Bool} {H : VHeap} : vcall (F PP shF) shF base nt dst 73 args frz H = (mapO (frzD H 6) args).bind (vpure PP shF base dst 73 (closedL args) frz H) := vcall_pure sh73
@[go_sem] theorem ve73 {base nt : Nat} {dst : Option Nat} {args : List DV} {frz : Bool} {H : VHeap} : vcallE (F PP shF) shF base nt 73 args dst frz H = (mapO (frzD H 6) args).bind (vpure PP shF base dst 73 (closedL args) frz H) := vcallE_pure sh73
theorem PP76 : PP 76 = some ir76 := rfl
@[go_sem] theorem sh76 : shF 76 = false := rfl
@[go_sem] theorem vc76 {base nt : Nat} {dst : Option Nat} {args : List DV} {frz : Bool} {H : VHeap} : vcall (F PP shF) shF base nt dst 76 args frz H = (mapO (frzD H 6) args).bind (vpure PP shF base dst 76 (closedL args) frz H) := vcall_pure sh76
@[go_sem] theorem ve76 {base nt : Nat} {dst : Option Nat} {args : List DV} {frz : Bool} {H : VHeap} : vcallE (F PP shF) shF base nt 76 args dst frz H = (mapO (frzD H 6) args).bind (vpure PP shF base dst 76 (closedL args) frz H) := vcallE_pure sh76
theorem PP77 : PP 77 = some ir77 := rfl
@[go_sem] theorem sh77 : shF 77 = false := rfl
@[go_sem] theorem vc77 {base nt : Nat} {dst : Option Nat} {args : List DV} {frz : Bool} {H : VHeap} : vcall (F PP shF) shF base nt dst 77 args frz H = (mapO (frzD H 6) args).bind (vpure PP shF base dst 77 (closedL args) frz H) := vcall_pure sh77
@[go_sem] theorem ve77 {base nt : Nat} {dst : Option Nat} {args : List DV} {frz : Bool} {H : VHeap} : vcallE (F PP shF) shF base nt 77 args dst frz H = (mapO (frzD H 6) args).bind (vpure PP shF base dst 77 (closedL args) frz H) := vcallE_pure sh77
theorem PP78 : PP 78 = some ir78 := rfl
@[go_sem] theorem sh78 : shF 78 = true := rfl
@[go_sem] theorem vc78 {base nt : Nat} {dst : Option Nat} {args : List DV} {H : VHeap} : vcall (F PP shF) shF base nt dst 78 args false H = (F PP shF 78 args H (max H.length (base + nt))).map fun r => (r.1, some r.2) := vcall_sh sh78
@[go_sem] theorem ve78 {base nt : Nat} {dst : Option Nat} {args : List DV} {H : VHeap} : vcallE (F PP shF) shF base nt 78 args dst false H = (F PP shF 78 args (keepV H (args.map refD).flatten) (max H.length (base + nt))).map fun r => (r.1, some (mergeV H (args.map refD).flatten r.2)) := vcallE_sh sh78
theorem PP79 : PP 79 = some ir79 := rfl
@[go_sem] theorem sh79 : shF 79 = false := rfl
@[go_sem] theorem vc79 {base nt : Nat} {dst : Option Nat} {args : List DV} {frz : Bool} {H : VHeap} : vcall (F PP shF) shF base nt dst 79 args frz H = (mapO (frzD H 6) args).bind (vpure PP shF base dst 79 (closedL args) frz H) := vcall_pure sh79
@[go_sem] theorem ve79 {base nt : Nat} {dst : Option Nat} {args : List DV} {frz : Bool} {H : VHeap} : vcallE (F PP shF) shF base nt 79 args dst frz H = (mapO (frzD H 6) args).bind (vpure PP shF base dst 79 (closedL args) frz H) := vcallE_pure sh79
theorem PP90 : PP 90 = some ir90 := rfl
@[go_sem] theorem sh90 : shF 90 = false := rfl
@[go_sem] theorem vc90 {base nt : Nat} {dst : Option Nat} {args : List DV} {frz : Bool} {H : VHeap} : vcall (F PP shF) shF base nt dst 90 args frz H = (mapO (frzD H 6) args).bind (vpure PP shF base dst 90 (closedL args) frz H) := vcall_pure sh90
@[go_sem] theorem ve90 {base nt : Nat} {dst : Option Nat} {args : List DV} {frz : Bool} {H : VHeap} : vcallE (F PP shF) shF base nt 90 args dst frz H = (mapO (frzD H 6) args).bind (vpure PP shF base dst 90 (closedL args) frz H) := vcallE_pure sh90
theorem PP91 : PP 91 = some ir91 := rfl
@[go_sem] theorem sh91 : shF 91 = false := rfl
@[go_sem] theorem vc91 {base nt : Nat} {dst : Option Nat} {args : List DV} {frz : Bool} {H : VHeap} : vcall (F PP shF) shF base nt dst 91 args frz H = (mapO (frzD H 6) args).bind (vpure PP shF base dst 91 (closedL args) frz H) := vcall_pure sh91
@[go_sem] theorem ve91 {base nt : Nat} {dst : Option Nat} {args : List DV} {frz : Bool} {H : VHeap} : vcallE (F PP shF) shF base nt 91 args dst frz H = (mapO (frzD H 6) args).bind (vpure PP shF base dst 91 (closedL args) frz H) := vcallE_pure sh91
theorem PP103 : PP 103 = some ir103 := rfl
@[go_sem] theorem sh103 : shF 103 = false := rfl
@[go_sem] theorem vc103 {base nt : Nat} {dst : Option Nat} {args : List DV} {frz : Bool} {H : VHeap} : vcall (F PP shF) shF base nt dst 103 args frz H = (mapO (frzD H 6) args).bind (vpure PP shF base dst 103 (closedL args) frz H) := vcall_pure sh103
@[go_sem] theorem ve103 {base nt : Nat} {dst : Option Nat} {args : List DV} {frz : Bool} {H : VHeap} : vcallE (F PP shF) shF base nt 103 args dst frz H = (mapO (frzD H 6) args).bind (vpure PP shF base dst 103 (closedL args) frz H) := vcallE_pure sh103
theorem PP104 : PP 104 = some ir104 := rfl
@[go_sem] theorem sh104 : shF 104 = false := rfl
@[go_sem] theorem vc104 {base nt : Nat} {dst : Option Nat} {args : List DV} {frz : Bool} {H : VHeap} : vcall (F PP shF) shF base nt dst 104 args frz H = (mapO (frzD H 6) args).bind (vpure PP shF base dst 104 (closedL args) frz H) := vcall_pure sh104
@[go_sem] theorem ve104 {base nt : Nat} {dst : Option Nat} {args : List DV} {frz : Bool} {H : VHeap} : vcallE (F PP shF) shF base nt 104 args dst frz H = (mapO (frzD H 6) args).bind (vpure PP shF base dst 104 (closedL args) frz H) := vcallE_pure sh104
theorem PP114 : PP 114 = some ir114 := rfl
@[go_sem] theorem sh114 : shF 114 = false := rfl
@[go_sem] theorem vc114 {base nt : Nat} {dst : Option Nat} {args : List DV} {frz : Bool} {H : VHeap} : vcall (F PP shF) shF base nt dst 114 args frz H = (mapO (frzD H 6) args).bind (vpure PP shF base dst 114 (closedL args) frz H) := vcall_pure sh114
@[go_sem] theorem ve114 {base nt : Nat} {dst : Option Nat} {args : List DV} {frz : Bool} {H : VHeap} : vcallE (F PP shF) shF base nt 114 args dst frz H = (mapO (frzD H 6) args).bind (vpure PP shF base dst 114 (closedL args) frz H) := vcallE_pure sh114
theorem PP115 : PP 115 = some ir115 := rfl
@[go_sem] theorem sh115 : shF 115 = false := rfl
@[go_sem] theorem vc115 {base nt : Nat} {dst : Option Nat} {args : List DV} {frz : Bool} {H : VHeap} : vcall (F PP shF) shF base nt dst 115 args frz H = (mapO (frzD H 6) args).bind (vpure PP shF base dst 115 (closedL args) frz H) := vcall_pure sh115
@[go_sem] theorem ve115 {base nt : Nat} {dst : Option Nat} {args : List DV} {frz : Bool} {H : VHeap} : vcallE (F PP shF) shF base nt 115 args dst frz H = (mapO (frzD H 6) args).bind (vpure PP shF base dst 115 (closedL args) frz H) := vcallE_pure sh115
theorem PP126 : PP 126 = some ir126 := rfl
@[go_sem] theorem sh126 : shF 126 = false := rfl
@[go_sem] theorem vc126 {base nt : Nat} {dst : Option Nat} {args : List DV} {frz : Bool} {H : VHeap} : vcall (F PP shF) shF base nt dst 126 args frz H = (mapO (frzD H 6) args).bind (vpure PP shF base dst 126 (closedL args) frz H) := vcall_pure sh126
@[go_sem] theorem ve126 {base nt : Nat} {dst : Option Nat} {args : List DV} {frz : Bool} {H : VHeap} : vcallE (F PP shF) shF base nt 126 args dst frz H = (mapO (frzD H 6) args).bind (vpure PP shF base dst 126 (closedL args) frz H) := vcallE_pure sh126
theorem PP218 : PP 218 = some ir218 := rfl
@[go_sem] theorem sh218 : shF 218 = false := rfl
@[go_sem] theorem vc218 {base nt : Nat} {dst : Option Nat} {args : List DV} {frz : Bool} {H : VHeap} : vcall (F PP shF) shF base nt dst 218 args frz H = (mapO (frzD H 6) args).bind (vpure PP shF base dst 218 (closedL args) frz H) := vcall_pure sh218
@[go_sem] theorem ve218 {base nt : Nat} {dst : Option Nat} {args : List DV} {frz : Bool} {H : VHeap} : vcallE (F PP shF) shF base nt 218 args dst frz H = (mapO (frzD H 6) args).bind (vpure PP shF base dst 218 (closedL args) frz H) := vcallE_pure sh218
theorem PP220 : PP 220 = some ir220 := rfl
@[go_sem] theorem sh220 : shF 220 = false := rfl
@[go_sem] theorem vc220 {base nt : Nat} {dst : Option Nat} {args : List DV} {frz : Bool} {H : VHeap} : vcall (F PP shF) shF base nt dst 220 args frz H = (mapO (frzD H 6) args).bind (vpure PP shF base dst 220 (closedL args) frz H) := vcall_pure sh220
@[go_sem] theorem ve220 {base nt : Nat} {dst : Option Nat} {args : List DV} {frz : Bool} {H : VHeap} : vcallE (F PP shF) shF base nt 220 args dst frz H = (mapO (frzD H 6) args).bind (vpure PP shF base dst 220 (closedL args) frz H) := vcallE_pure sh220
theorem PP225 : PP 225 = some ir225 := rfl
@[go_sem] theorem sh225 : shF 225 = false := rfl
@[go_sem] theorem vc225 {base nt : Nat} {dst : Option Nat} {args : List DV} {frz : Bool} {H : VHeap} : vcall (F PP shF) shF base nt dst 225 args frz H = (mapO (frzD H 6) args).bind (vpure PP shF base dst 225 (closedL args) frz H) := vcall_pure sh225
@[go_sem] theorem ve225 {base nt : Nat} {dst : Option Nat} {args : List DV} {frz : Bool} {H : VHeap} : vcallE (F PP shF) shF base nt 225 args dst frz H = (mapO (frzD H 6) args).bind (vpure PP shF base dst 225 (closedL args) frz H) := vcallE_pure sh225
theorem PP226 : PP 226 = some ir226 := rfl
@[go_sem] theorem sh226 : shF 226 = false := rfl
@[go_sem] theorem vc226 {base nt : Nat} {dst : Option Nat} {args : List DV} {frz : Bool} {H : VHeap} : vcall (F PP shF) shF base nt dst 226 args frz H = (mapO (frzD H 6) args).bind (vpure PP shF base dst 226 (closedL args) frz H) := vcall_pure sh226
@[go_sem] theorem ve226 {base nt : Nat} {dst : Option Nat} {args : List DV} {frz : Bool} {H : VHeap} : vcallE (F PP shF) shF base nt 226 args dst frz H = (mapO (frzD H 6) args).bind (vpure PP shF base dst 226 (closedL args) frz H) := vcallE_pure sh226
theorem PP227 : PP 227 = some ir227 := rfl
@[go_sem] theorem sh227 : shF 227 = false := rfl
@[go_sem] theorem vc227 {base nt : Nat} {dst : Option Nat} {args : List DV} {frz : Bool} {H : VHeap} : vcall (F PP shF) shF base nt dst 227 args frz H = (mapO (frzD H 6) args).bind (vpure PP shF base dst 227 (closedL args) frz H) := vcall_pure sh227
@[go_sem] theorem ve227 {base nt : Nat} {dst : Option Nat} {args : List DV} {frz : Bool} {H : VHeap} : vcallE (F PP shF) shF base nt 227 args dst frz H = (mapO (frzD H 6) args).bind (vpure PP shF base dst 227 (closedL args) frz H) := vcallE_pure sh227
theorem PP228 : PP 228 = some ir228 := rfl
@[go_sem] theorem sh228 : shF 228 = false := rfl
@[go_sem] theorem vc228 {base nt : Nat} {dst : Option Nat} {args : List DV} {frz : Bool} {H : VHeap} : vcall (F PP shF) shF base nt dst 228 args frz H = (mapO (frzD H 6) args).bind (vpure PP shF base dst 228 (closedL args) frz H) := vcall_pure sh228
@[go_sem] theorem ve228 {base nt : Nat} {dst : Option Nat} {args : List DV} {frz : Bool} {H : VHeap} : vcallE (F PP shF) shF base nt 228 args dst frz H = (mapO (frzD H 6) args).bind (vpure PP shF base dst 228 (closedL args) frz H) := vcallE_pure sh228
theorem PP229 : PP 229 = some ir229 := rfl
@[go_sem] theorem sh229 : shF 229 = false := rfl
@[go_sem] theorem vc229 {base nt : Nat} {dst : Option Nat} {args : List DV} {frz : Bool} {H : VHeap} : vcall (F PP shF) shF base nt dst 229 args frz H = (mapO (frzD H 6) args).bind (vpure PP shF base dst 229 (closedL args) frz H) := vcall_pure sh229
@[go_sem] theorem ve229 {base nt : Nat} {dst : Option Nat} {args : List DV} {frz : Bool} {H : VHeap} : vcallE (F PP shF) shF base nt 229 args dst frz H = (mapO (frzD H 6) args).bind (vpure PP shF base dst 229 (closedL args) frz H) := vcallE_pure sh229
theorem PP230 : PP 230 = some ir230 := rfl
@[go_sem] theorem sh230 : shF 230 = false := rfl
@[go_sem] theorem vc230 {base nt : Nat} {dst : Option Nat} {args : List DV} {frz : Bool} {H : VHeap} : vcall (F PP shF) shF base nt dst 230 args frz H = (mapO (frzD H 6) args).bind (vpure PP shF base dst 230 (closedL args) frz H) := vcall_pure sh230
@[go_sem] theorem ve230 {base nt : Nat} {dst : Option Nat} {args : List DV} {frz : Bool} {H : VHeap} : vcallE (F PP shF) shF base nt 230 args dst frz H = (mapO (frzD H 6) args).bind (vpure PP shF base dst 230 (closedL args) frz H) := vcallE_pure sh230
theorem PP232 : PP 232 = some ir232 := rfl
@[go_sem] theorem sh232 : shF 232 = false := rfl
@[go_sem] theorem vc232 {base nt : Nat} {dst : Option Nat} {args : List DV} {frz : Bool} {H : VHeap} : vcall (F PP shF) shF base nt dst 232 args frz H = (mapO (frzD H 6) args).bind (vpure PP shF base dst 232 (closedL args) frz H) := vcall_pure sh232
@[go_sem] theorem ve232 {base nt : Nat} {dst : Option Nat} {args : List DV} {frz : Bool} {H : VHeap} : vcallE (F PP shF) shF base nt 232 args dst frz H = (mapO (frzD H 6) args).bind (vpure PP shF base dst 232 (closedL args) frz H) := vcallE_pure sh232
theorem PP234 : PP 234 = some ir234 := rfl
@[go_sem] theorem sh234 : shF 234 = false := rfl
@[go_sem] theorem vc234 {base nt : Nat} {dst : Option Nat} {args : List DV} {frz : Bool} {H : VHeap} : vcall (F PP shF) shF base nt dst 234 args frz H = (mapO (frzD H 6) args).bind (vpure PP shF base dst 234 (closedL args) frz H) := vcall_pure sh234
@[go_sem] theorem ve234 {base nt : Nat} {dst : Option Nat} {args : List DV} {frz : Bool} {H : VHeap} : vcallE (F PP shF) shF base nt 234 args dst frz H = (mapO (frzD H 6) args).bind (vpure PP shF base dst 234 (closedL args) frz H) := vcallE_pure sh234
theorem PP236 : PP 236 = some ir236 := rfl
@[go_sem] theorem sh236 : shF 236 = false := rfl
@[go_sem] theorem vc236 {base nt : Nat} {dst : Option Nat} {args : List DV} {frz : Bool} {H : VHeap} : vcall (F PP shF) shF base nt dst 236 args frz H = (mapO (frzD H 6) args).bind (vpure PP shF base dst 236 (closedL args) frz H) := vcall_pure sh236
@[go_sem] theorem ve236 {base nt : Nat} {dst : Option Nat} {args : List DV} {frz : Bool} {H : VHeap} : vcallE (F PP shF) shF base nt 236 args dst frz H = (mapO (frzD H 6) args).bind (vpure PP shF base dst 236 (closedL args) frz H) := vcallE_pure sh236
theorem PP237 : PP 237 = some ir237 := rfl
@[go_sem] theorem sh237 : shF 237 = false := rfl
@[go_sem] theorem vc237 {base nt : Nat} {dst : Option Nat} {args : List DV} {frz : Bool} {H : VHeap} : vcall (F PP shF) shF base nt dst 237 args frz H = (mapO (frzD H 6) args).bind (vpure PP shF base dst 237 (closedL args) frz H) := vcall_pure sh237
@[go_sem] theorem ve237 {base nt : Nat} {dst : Option Nat} {args : List DV} {frz : Bool} {H : VHeap} : vcallE (F PP shF) shF base nt 237 args dst frz H = (mapO (frzD H 6) args).bind (vpure PP shF base dst 237 (closedL args) frz H) := vcallE_pure sh237
theorem PP238 : PP 238 = some ir238 := rfl
@[go_sem] theorem sh238 : shF 238 = false := rfl
@[go_sem] theorem vc238 {base nt : Nat} {dst : Option Nat} {args : List DV} {frz : Bool} {H : VHeap} : vcall (F PP shF) shF base nt dst 238 args frz H = (mapO (frzD H 6) args).bind (vpure PP shF base dst 238 (closedL args) frz H) := vcall_pure sh238
@[go_sem] theorem ve238 {base nt : Nat} {dst : Option Nat} {args : List DV} {frz : Bool} {H : VHeap} : vcallE (F PP shF) shF base nt 238 args dst frz H = (mapO (frzD H 6) args).bind (vpure PP shF base dst 238 (closedL args) frz H) := vcallE_pure sh238
theorem PP239 : PP 239 = some ir239 := rfl
@[go_sem] theorem sh239 : shF 239 = false := rfl
@[go_sem] theorem vc239 {base nt : Nat} {dst : Option Nat} {args : List DV} {frz : Bool} {H : VHeap} : vcall (F PP shF) shF base nt dst 239 args frz H = (mapO (frzD H 6) args).bind (vpure PP shF base dst 239 (closedL args) frz H) := vcall_pure sh239
@[go_sem] theorem ve239 {base nt : Nat} {dst : Option Nat} {args : List DV} {frz : Bool} {H : VHeap} : vcallE (F PP shF) shF base nt 239 args dst frz H = (mapO (frzD H 6) args).bind (vpure PP shF base dst 239 (closedL args) frz H) := vcallE_pure sh239
theorem PP240 : PP 240 = some ir240 := rfl
@[go_sem] theorem sh240 : shF 240 = false := rfl
@[go_sem] theorem vc240 {base nt : Nat} {dst : Option Nat} {args : List DV} {frz : Bool} {H : VHeap} : vcall (F PP shF) shF base nt dst 240 args frz H = (mapO (frzD H 6) args).bind (vpure PP shF base dst 240 (closedL args) frz H) := vcall_pure sh240
@[go_sem] theorem ve240 {base nt : Nat} {dst : Option Nat} {args : List DV} {frz : Bool} {H : VHeap} : vcallE (F PP shF) shF base nt 240 args dst frz H = (mapO (frzD H 6) args).bind (vpure PP shF base dst 240 (closedL args) frz H) := vcallE_pure sh240
theorem PP241 : PP 241 = some ir241 := rfl
@[go_sem] theorem sh241 : shF 241 = false := rfl
@[go_sem] theorem vc241 {base nt : Nat} {dst : Option Nat} {args : List DV} {frz : Bool} {H : VHeap} : vcall (F PP shF) shF base nt dst 241 args frz H = (mapO (frzD H 6) args).bind (vpure PP shF base dst 241 (closedL args) frz H) := vcall_pure sh241
@[go_sem] theorem ve241 {base nt : Nat} {dst : Option Nat} {args : List DV} {frz : Bool} {H : VHeap} : vcallE (F PP shF) shF base nt 241 args dst frz H = (mapO (frzD H 6) args).bind (vpure PP shF base dst 241 (closedL args) frz H) := vcallE_pure sh241
theorem PP242 : PP 242 = some ir242 := rfl
@[go_sem] theorem sh242 : shF 242 = false := rfl
@[go_sem] theorem vc242 {base nt : Nat} {dst : Option Nat} {args : List DV} {frz : Bool} {H : VHeap} : vcall (F PP shF) shF base nt dst 242 args frz H = (mapO (frzD H 6) args).bind (vpure PP shF base dst 242 (closedL args) frz H) := vcall_pure sh242
@[go_sem] theorem ve242 {base nt : Nat} {dst : Option Nat} {args : List DV} {frz : Bool} {H : VHeap} : vcallE (F PP shF) shF base nt 242 args dst frz H = (mapO (frzD H 6) args).bind (vpure PP shF base dst 242 (closedL args) frz H) := vcallE_pure sh242
theorem PP244 : PP 244 = some ir244 := rfl
@[go_sem] theorem sh244 : shF 244 = false := rfl
@[go_sem] theorem vc244 {base nt : Nat} {dst : Option Nat} {args : List DV} {frz : Bool} {H : VHeap} : vcall (F PP shF) shF base nt dst 244 args frz H = (mapO (frzD H 6) args).bind (vpure PP shF base dst 244 (closedL args) frz H) := vcall_pure sh244
@[go_sem] theorem ve244 {base nt : Nat} {dst : Option Nat} {args : List DV} {frz : Bool} {H : VHeap} : vcallE (F PP shF) shF base nt 244 args dst frz H = (mapO (frzD H 6) args).bind (vpure PP shF base dst 244 (closedL args) frz H) := vcallE_pure sh244
theorem PP245 : PP 245 = some ir245 := rfl
@[go_sem] theorem sh245 : shF 245 = false := rfl
@[go_sem] theorem vc245 {base nt : Nat} {dst : Option Nat} {args : List DV} {frz : Bool} {H : VHeap} : vcall (F PP shF) shF base nt dst 245 args frz H = (mapO (frzD H 6) args).bind (vpure PP shF base dst 245 (closedL args) frz H) := vcall_pure sh245
@[go_sem] theorem ve245 {base nt : Nat} {dst : Option Nat} {args : List DV} {frz : Bool} {H : VHeap} : vcallE (F PP shF) shF base nt 245 args dst frz H = (mapO (frzD H 6) args).bind (vpure PP shF base dst 245 (closedL args) frz H) := vcallE_pure sh245
theorem PP246 : PP 246 = some ir246 := rfl
@[go_sem] theorem sh246 : shF 246 = false := rfl
@[go_sem] theorem vc246 {base nt : Nat} {dst : Option Nat} {args : List DV} {frz : Bool} {H : VHeap} : vcall (F PP shF) shF base nt dst 246 args frz H = (mapO (frzD H 6) args).bind (vpure PP shF base dst 246 (closedL args) frz H) := vcall_pure sh246
@[go_sem] theorem ve246 {base nt : Nat} {dst : Option Nat} {args : List DV} {frz : Bool} {H : VHeap} : vcallE (F PP shF) shF base nt 246 args dst frz H = (mapO (frzD H 6) args).bind (vpure PP shF base dst 246 (closedL args) frz H) := vcallE_pure sh246

end Go.Proofs.Cp
