/- The program, as the machine has it (written by mkglobal.py). -/
import Derived.Test.YtjgijnimbnielaaDoorIr0
import Derived.Test.YtjgijnimbnielaaDoorCpOk
set_option maxRecDepth 100000
set_option linter.unusedVariables false
namespace Go.Proofs.Cp
open Go
def shL : List Nat := [49, 50, 51, 61, 62, 105, 110, 116, 119, 120, 123, 124, 125, 127, 128, 129, 130]
def shF (f : Nat) : Bool := shL.contains f
def tblPP : List (Nat × IFun) := [(11, ir11), (12, ir12), (13, ir13), (14, ir14), (15, ir15), (16, ir16), (17, ir17), (19, ir19), (21, ir21), (23, ir23), (25, ir25), (28, ir28), (30, ir30), (37, ir37), (39, ir39), (40, ir40), (41, ir41), (47, ir47), (48, ir48), (49, ir49), (50, ir50), (51, ir51), (52, ir52), (53, ir53), (54, ir54), (55, ir55), (56, ir56), (57, ir57), (59, ir59), (61, ir61), (62, ir62), (63, ir63), (64, ir64), (65, ir65), (66, ir66), (73, ir73), (76, ir76), (77, ir77), (79, ir79), (88, ir88), (90, ir90), (93, ir93), (97, ir97), (103, ir103), (105, ir105), (110, ir110), (113, ir113), (114, ir114), (116, ir116), (117, ir117), (118, ir118), (119, ir119), (120, ir120), (121, ir121), (122, ir122), (123, ir123), (124, ir124), (125, ir125), (126, ir126), (127, ir127), (128, ir128), (129, ir129), (130, ir130)]
def lkp (f : Nat) : List (Nat × IFun) → Option IFun
  | [] => none
  | p :: l => if p.1 = f then some p.2 else lkp f l
def PP : Prog := fun f => lkp f tblPP
theorem lkp_mem {f : Nat} {fn : IFun} : ∀ {l : List (Nat × IFun)}, lkp f l = some fn → (f, fn) ∈ l
  | [], h => by simp [lkp] at h
  | p :: l, h => by
    simp only [lkp] at h
    split at h
    · rename_i hp; simp at h; subst h; subst hp; simp
    · exact List.mem_cons_of_mem _ (lkp_mem h)
theorem PP11 : PP 11 = some ir11 := rfl
@[go_sem] theorem sh11 : shF 11 = false := rfl
@[go_sem] theorem vc11 {base nt : Nat} {dst : Option Nat} {args : List DV} {frz : Bool} {H : VHeap} : vcall (F PP shF) shF base nt dst 11 args frz H = (mapO (frzD H 6) args).bind (vpure PP shF base dst 11 (closedL args) frz H) := vcall_pure sh11
@[go_sem] theorem ve11 {base nt : Nat} {dst : Option Nat} {args : List DV} {frz : Bool} {H : VHeap} : vcallE (F PP shF) shF base nt 11 args dst frz H = (mapO (frzD H 6) args).bind (vpure PP shF base dst 11 (closedL args) frz H) := vcallE_pure sh11
theorem PP12 : PP 12 = some ir12 := rfl
@[go_sem] theorem sh12 : shF 12 = false := rfl
@[go_sem] theorem vc12 {base nt : Nat} {dst : Option Nat} {args : List DV} {frz : Bool} {H : VHeap} : vcall (F PP shF) shF base nt dst 12 args frz H = (mapO (frzD H 6) args).bind (vpure PP shF base dst 12 (closedL args) frz H) := vcall_pure sh12
@[go_sem] theorem ve12 {base nt : Nat} {dst : Option Nat} {args : List DV} {frz : Bool} {H : VHeap} : vcallE (F PP shF) shF base nt 12 args dst frz H = (mapO (frzD H 6) args).bind (vpure PP shF base dst 12 (closedL args) frz H) := vcallE_pure sh12
theorem PP13 : PP 13 = some ir13 := rfl
@[go_sem] theorem sh13 : shF 13 = false := rfl
@[go_sem] theorem vc13 {base nt : Nat} {dst : Option Nat} {args : List DV} {frz : Bool} {H : VHeap} : vcall (F PP shF) shF base nt dst 13 args frz H = (mapO (frzD H 6) args).bind (vpure PP shF base dst 13 (closedL args) frz H) := vcall_pure sh13
@[go_sem] theorem ve13 {base nt : Nat} {dst : Option Nat} {args : List DV} {frz : Bool} {H : VHeap} : vcallE (F PP shF) shF base nt 13 args dst frz H = (mapO (frzD H 6) args).bind (vpure PP shF base dst 13 (closedL args) frz H) := vcallE_pure sh13
theorem PP14 : PP 14 = some ir14 := rfl
@[go_sem] theorem sh14 : shF 14 = false := rfl
@[go_sem] theorem vc14 {base nt : Nat} {dst : Option Nat} {args : List DV} {frz : Bool} {H : VHeap} : vcall (F PP shF) shF base nt dst 14 args frz H = (mapO (frzD H 6) args).bind (vpure PP shF base dst 14 (closedL args) frz H) := vcall_pure sh14
@[go_sem] theorem ve14 {base nt : Nat} {dst : Option Nat} {args : List DV} {frz : Bool} {H : VHeap} : vcallE (F PP shF) shF base nt 14 args dst frz H = (mapO (frzD H 6) args).bind (vpure PP shF base dst 14 (closedL args) frz H) := vcallE_pure sh14
theorem PP15 : PP 15 = some ir15 := rfl
@[go_sem] theorem sh15 : shF 15 = false := rfl
@[go_sem] theorem vc15 {base nt : Nat} {dst : Option Nat} {args : List DV} {frz : Bool} {H : VHeap} : vcall (F PP shF) shF base nt dst 15 args frz H = (mapO (frzD H 6) args).bind (vpure PP shF base dst 15 (closedL args) frz H) := vcall_pure sh15
@[go_sem] theorem ve15 {base nt : Nat} {dst : Option Nat} {args : List DV} {frz : Bool} {H : VHeap} : vcallE (F PP shF) shF base nt 15 args dst frz H = (mapO (frzD H 6) args).bind (vpure PP shF base dst 15 (closedL args) frz H) := vcallE_pure sh15
theorem PP16 : PP 16 = some ir16 := rfl
@[go_sem] theorem sh16 : shF 16 = false := rfl
@[go_sem] theorem vc16 {base nt : Nat} {dst : Option Nat} {args : List DV} {frz : Bool} {H : VHeap} : vcall (F PP shF) shF base nt dst 16 args frz H = (mapO (frzD H 6) args).bind (vpure PP shF base dst 16 (closedL args) frz H) := vcall_pure sh16
@[go_sem] theorem ve16 {base nt : Nat} {dst : Option Nat} {args : List DV} {frz : Bool} {H : VHeap} : vcallE (F PP shF) shF base nt 16 args dst frz H = (mapO (frzD H 6) args).bind (vpure PP shF base dst 16 (closedL args) frz H) := vcallE_pure sh16
theorem PP17 : PP 17 = some ir17 := rfl
@[go_sem] theorem sh17 : shF 17 = false := rfl
@[go_sem] theorem vc17 {base nt : Nat} {dst : Option Nat} {args : List DV} {frz : Bool} {H : VHeap} : vcall (F PP shF) shF base nt dst 17 args frz H = (mapO (frzD H 6) args).bind (vpure PP shF base dst 17 (closedL args) frz H) := vcall_pure sh17
@[go_sem] theorem ve17 {base nt : Nat} {dst : Option Nat} {args : List DV} {frz : Bool} {H : VHeap} : vcallE (F PP shF) shF base nt 17 args dst frz H = (mapO (frzD H 6) args).bind (vpure PP shF base dst 17 (closedL args) frz H) := vcallE_pure sh17
theorem PP19 : PP 19 = some ir19 := rfl
@[go_sem] theorem sh19 : shF 19 = false := rfl
@[go_sem] theorem vc19 {base nt : Nat} {dst : Option Nat} {args : List DV} {frz : Bool} {H : VHeap} : vcall (F PP shF) shF base nt dst 19 args frz H = (mapO (frzD H 6) args).bind (vpure PP shF base dst 19 (closedL args) frz H) := vcall_pure sh19
@[go_sem] theorem ve19 {base nt : Nat} {dst : Option Nat} {args : List DV} {frz : Bool} {H : VHeap} : vcallE (F PP shF) shF base nt 19 args dst frz H = (mapO (frzD H 6) args).bind (vpure PP shF base dst 19 (closedL args) frz H) := vcallE_pure sh19
theorem PP21 : PP 21 = some ir21 := rfl
@[go_sem] theorem sh21 : shF 21 = false := rfl
@[go_sem] theorem vc21 {base nt : Nat} {dst : Option Nat} {args : List DV} {frz : Bool} {H : VHeap} : vcall (F PP shF) shF base nt dst 21 args frz H = (mapO (frzD H 6) args).bind (vpure PP shF base dst 21 (closedL args) frz H) := vcall_pure sh21
@[go_sem] theorem ve21 {base nt : Nat} {dst : Option Nat} {args : List DV} {frz : Bool} {H : VHeap} : vcallE (F PP shF) shF base nt 21 args dst frz H = (mapO (frzD H 6) args).bind (vpure PP shF base dst 21 (closedL args) frz H) := vcallE_pure sh21
theorem PP23 : PP 23 = some ir23 := rfl
@[go_sem] theorem sh23 : shF 23 = false := rfl
@[go_sem] theorem vc23 {base nt : Nat} {dst : Option Nat} {args : List DV} {frz : Bool} {H : VHeap} : vcall (F PP shF) shF base nt dst 23 args frz H = (mapO (frzD H 6) args).bind (vpure PP shF base dst 23 (closedL args) frz H) := vcall_pure sh23
@[go_sem] theorem ve23 {base nt : Nat} {dst : Option Nat} {args : List DV} {frz : Bool} {H : VHeap} : vcallE (F PP shF) shF base nt 23 args dst frz H = (mapO (frzD H 6) args).bind (vpure PP shF base dst 23 (closedL args) frz H) := vcallE_pure sh23
theorem PP25 : PP 25 = some ir25 := rfl
@[go_sem] theorem sh25 : shF 25 = false := rfl
@[go_sem] theorem vc25 {base nt : Nat} {dst : Option Nat} {args : List DV} {frz : Bool} {H : VHeap} : vcall (F PP shF) shF base nt dst 25 args frz H = (mapO (frzD H 6) args).bind (vpure PP shF base dst 25 (closedL args) frz H) := vcall_pure sh25
@[go_sem] theorem ve25 {base nt : Nat} {dst : Option Nat} {args : List DV} {frz : Bool} {H : VHeap} : vcallE (F PP shF) shF base nt 25 args dst frz H = (mapO (frzD H 6) args).bind (vpure PP shF base dst 25 (closedL args) frz H) := vcallE_pure sh25
theorem PP28 : PP 28 = some ir28 := rfl
@[go_sem] theorem sh28 : shF 28 = false := rfl
@[go_sem] theorem vc28 {base nt : Nat} {dst : Option Nat} {args : List DV} {frz : Bool} {H : VHeap} : vcall (F PP shF) shF base nt dst 28 args frz H = (mapO (frzD H 6) args).bind (vpure PP shF base dst 28 (closedL args) frz H) := vcall_pure sh28
@[go_sem] theorem ve28 {base nt : Nat} {dst : Option Nat} {args : List DV} {frz : Bool} {H : VHeap} : vcallE (F PP shF) shF base nt 28 args dst frz H = (mapO (frzD H 6) args).bind (vpure PP shF base dst 28 (closedL args) frz H) := vcallE_pure sh28
theorem PP30 : PP 30 = some ir30 := rfl
@[go_sem] theorem sh30 : shF 30 = false := rfl
@[go_sem] theorem vc30 {base nt : Nat} {dst : Option Nat} {args : List DV} {frz : Bool} {H : VHeap} : vcall (F PP shF) shF base nt dst 30 args frz H = (mapO (frzD H 6) args).bind (vpure PP shF base dst 30 (closedL args) frz H) := vcall_pure sh30
@[go_sem] theorem ve30 {base nt : Nat} {dst : Option Nat} {args : List DV} {frz : Bool} {H : VHeap} : vcallE (F PP shF) shF base nt 30 args dst frz H = (mapO (frzD H 6) args).bind (vpure PP shF base dst 30 (closedL args) frz H) := vcallE_pure sh30
theorem PP37 : PP 37 = some ir37 := rfl
@[go_sem] theorem sh37 : shF 37 = false := rfl
@[go_sem] theorem vc37 {base nt : Nat} {dst : Option Nat} {args : List DV} {frz : Bool} {H : VHeap} : vcall (F PP shF) shF base nt dst 37 args frz H = (mapO (frzD H 6) args).bind (vpure PP shF base dst 37 (closedL args) frz H) := vcall_pure sh37
@[go_sem] theorem ve37 {base nt : Nat} {dst : Option Nat} {args : List DV} {frz : Bool} {H : VHeap} : vcallE (F PP shF) shF base nt 37 args dst frz H = (mapO (frzD H 6) args).bind (vpure PP shF base dst 37 (closedL args) frz H) := vcallE_pure sh37
theorem PP39 : PP 39 = some ir39 := rfl
@[go_sem] theorem sh39 : shF 39 = false := rfl
@[go_sem] theorem vc39 {base nt : Nat} {dst : Option Nat} {args : List DV} {frz : Bool} {H : VHeap} : vcall (F PP shF) shF base nt dst 39 args frz H = (mapO (frzD H 6) args).bind (vpure PP shF base dst 39 (closedL args) frz H) := vcall_pure sh39
@[go_sem] theorem ve39 {base nt : Nat} {dst : Option Nat} {args : List DV} {frz : Bool} {H : VHeap} : vcallE (F PP shF) shF base nt 39 args dst frz H = (mapO (frzD H 6) args).bind (vpure PP shF base dst 39 (closedL args) frz H) := vcallE_pure sh39
theorem PP40 : PP 40 = some ir40 := rfl
@[go_sem] theorem sh40 : shF 40 = false := rfl
@[go_sem] theorem vc40 {base nt : Nat} {dst : Option Nat} {args : List DV} {frz : Bool} {H : VHeap} : vcall (F PP shF) shF base nt dst 40 args frz H = (mapO (frzD H 6) args).bind (vpure PP shF base dst 40 (closedL args) frz H) := vcall_pure sh40
@[go_sem] theorem ve40 {base nt : Nat} {dst : Option Nat} {args : List DV} {frz : Bool} {H : VHeap} : vcallE (F PP shF) shF base nt 40 args dst frz H = (mapO (frzD H 6) args).bind (vpure PP shF base dst 40 (closedL args) frz H) := vcallE_pure sh40
theorem PP41 : PP 41 = some ir41 := rfl
@[go_sem] theorem sh41 : shF 41 = false := rfl
@[go_sem] theorem vc41 {base nt : Nat} {dst : Option Nat} {args : List DV} {frz : Bool} {H : VHeap} : vcall (F PP shF) shF base nt dst 41 args frz H = (mapO (frzD H 6) args).bind (vpure PP shF base dst 41 (closedL args) frz H) := vcall_pure sh41
@[go_sem] theorem ve41 {base nt : Nat} {dst : Option Nat} {args : List DV} {frz : Bool} {H : VHeap} : vcallE (F PP shF) shF base nt 41 args dst frz H = (mapO (frzD H 6) args).bind (vpure PP shF base dst 41 (closedL args) frz H) := vcallE_pure sh41
theorem PP47 : PP 47 = some ir47 := rfl
@[go_sem] theorem sh47 : shF 47 = false := rfl
@[go_sem] theorem vc47 {base nt : Nat} {dst : Option Nat} {args : List DV} {frz : Bool} {H : VHeap} : vcall (F PP shF) shF base nt dst 47 args frz H = (mapO (frzD H 6) args).bind (vpure PP shF base dst 47 (closedL args) frz H) := vcall_pure sh47
@[go_sem] theorem ve47 {base nt : Nat} {dst : Option Nat} {args : List DV} {frz : Bool} {H : VHeap} : vcallE (F PP shF) shF base nt 47 args dst frz H = (mapO (frzD H 6) args).bind (vpure PP shF base dst 47 (closedL args) frz H) := vcallE_pure sh47
theorem PP48 : PP 48 = some ir48 := rfl
@[go_sem] theorem sh48 : shF 48 = false := rfl
@[go_sem] theorem vc48 {base nt : Nat} {dst : Option Nat} {args : List DV} {frz : Bool} {H : VHeap} : vcall (F PP shF) shF base nt dst 48 args frz H = (mapO (frzD H 6) args).bind (vpure PP shF base dst 48 (closedL args) frz H) := vcall_pure sh48
@[go_sem] theorem ve48 {base nt : Nat} {dst : Option Nat} {args : List DV} {frz : Bool} {H : VHeap} : vcallE (F PP shF) shF base nt 48 args dst frz H = (mapO (frzD H 6) args).bind (vpure PP shF base dst 48 (closedL args) frz H) := vcallE_pure sh48
theorem PP49 : PP 49 = some ir49 := rfl
@[go_sem] theorem sh49 : shF 49 = true := rfl
@[go_sem] theorem vc49 {base nt : Nat} {dst : Option Nat} {args : List DV} {H : VHeap} : vcall (F PP shF) shF base nt dst 49 args false H = (F PP shF 49 args H (max H.length (base + nt))).map fun r => (r.1, some r.2) := vcall_sh sh49
@[go_sem] theorem ve49 {base nt : Nat} {dst : Option Nat} {args : List DV} {H : VHeap} : vcallE (F PP shF) shF base nt 49 args dst false H = (F PP shF 49 args (keepV H (args.map refD).flatten) (max H.length (base + nt))).map fun r => (r.1, some (mergeV H (args.map refD).flatten r.2)) := vcallE_sh sh49
theorem PP50 : PP 50 = some ir50 := rfl
@[go_sem] theorem sh50 : shF 50 = true := rfl
@[go_sem] theorem vc50 {base nt : Nat} {dst : Option Nat} {args : List DV} {H : VHeap} : vcall (F PP shF) shF base nt dst 50 args false H = (F PP shF 50 args H (max H.length (base + nt))).map fun r => (r.1, some r.2) := vcall_sh sh50
@[go_sem] theorem ve50 {base nt : Nat} {dst : Option Nat} {args : List DV} {H : VHeap} : vcallE (F PP shF) shF base nt 50 args dst false H = (F PP shF 50 args (keepV H (args.map refD).flatten) (max H.length (base + nt))).map fun r => (r.1, some (mergeV H (args.map refD).flatten r.2)) := vcallE_sh sh50
theorem PP51 : PP 51 = some ir51 := rfl
@[go_sem] theorem sh51 : shF 51 = true := rfl
@[go_sem] theorem vc51 {base nt : Nat} {dst : Option Nat} {args : List DV} {H : VHeap} : vcall (F PP shF) shF base nt dst 51 args false H = (F PP shF 51 args H (max H.length (base + nt))).map fun r => (r.1, some r.2) := vcall_sh sh51
@[go_sem] theorem ve51 {base nt : Nat} {dst : Option Nat} {args : List DV} {H : VHeap} : vcallE (F PP shF) shF base nt 51 args dst false H = (F PP shF 51 args (keepV H (args.map refD).flatten) (max H.length (base + nt))).map fun r => (r.1, some (mergeV H (args.map refD).flatten r.2)) := vcallE_sh sh51
theorem PP52 : PP 52 = some ir52 := rfl
@[go_sem] theorem sh52 : shF 52 = false := rfl
@[go_sem] theorem vc52 {base nt : Nat} {dst : Option Nat} {args : List DV} {frz : Bool} {H : VHeap} : vcall (F PP shF) shF base nt dst 52 args frz H = (mapO (frzD H 6) args).bind (vpure PP shF base dst 52 (closedL args) frz H) := vcall_pure sh52
@[go_sem] theorem ve52 {base nt : Nat} {dst : Option Nat} {args : List DV} {frz : Bool} {H : VHeap} : vcallE (F PP shF) shF base nt 52 args dst frz H = (mapO (frzD H 6) args).bind (vpure PP shF base dst 52 (closedL args) frz H) := vcallE_pure sh52
theorem PP53 : PP 53 = some ir53 := rfl
@[go_sem] theorem sh53 : shF 53 = false := rfl
@[go_sem] theorem vc53 {base nt : Nat} {dst : Option Nat} {args : List DV} {frz : Bool} {H : VHeap} : vcall (F PP shF) shF base nt dst 53 args frz H = (mapO (frzD H 6) args).bind (vpure PP shF base dst 53 (closedL args) frz H) := vcall_pure sh53
@[go_sem] theorem ve53 {base nt : Nat} {dst : Option Nat} {args : List DV} {frz : Bool} {H : VHeap} : vcallE (F PP shF) shF base nt 53 args dst frz H = (mapO (frzD H 6) args).bind (vpure PP shF base dst 53 (closedL args) frz H) := vcallE_pure sh53
theorem PP54 : PP 54 = some ir54 := rfl
@[go_sem] theorem sh54 : shF 54 = false := rfl
@[go_sem] theorem vc54 {base nt : Nat} {dst : Option Nat} {args : List DV} {frz : Bool} {H : VHeap} : vcall (F PP shF) shF base nt dst 54 args frz H = (mapO (frzD H 6) args).bind (vpure PP shF base dst 54 (closedL args) frz H) := vcall_pure sh54
@[go_sem] theorem ve54 {base nt : Nat} {dst : Option Nat} {args : List DV} {frz : Bool} {H : VHeap} : vcallE (F PP shF) shF base nt 54 args dst frz H = (mapO (frzD H 6) args).bind (vpure PP shF base dst 54 (closedL args) frz H) := vcallE_pure sh54
theorem PP55 : PP 55 = some ir55 := rfl
@[go_sem] theorem sh55 : shF 55 = false := rfl
@[go_sem] theorem vc55 {base nt : Nat} {dst : Option Nat} {args : List DV} {frz : Bool} {H : VHeap} : vcall (F PP shF) shF base nt dst 55 args frz H = (mapO (frzD H 6) args).bind (vpure PP shF base dst 55 (closedL args) frz H) := vcall_pure sh55
@[go_sem] theorem ve55 {base nt : Nat} {dst : Option Nat} {args : List DV} {frz : Bool} {H : VHeap} : vcallE (F PP shF) shF base nt 55 args dst frz H = (mapO (frzD H 6) args).bind (vpure PP shF base dst 55 (closedL args) frz H) := vcallE_pure sh55
theorem PP56 : PP 56 = some ir56 := rfl
@[go_sem] theorem sh56 : shF 56 = false := rfl
@[go_sem] theorem vc56 {base nt : Nat} {dst : Option Nat} {args : List DV} {frz : Bool} {H : VHeap} : vcall (F PP shF) shF base nt dst 56 args frz H = (mapO (frzD H 6) args).bind (vpure PP shF base dst 56 (closedL args) frz H) := vcall_pure sh56
@[go_sem] theorem ve56 {base nt : Nat} {dst : Option Nat} {args : List DV} {frz : Bool} {H : VHeap} : vcallE (F PP shF) shF base nt 56 args dst frz H = (mapO (frzD H 6) args).bind (vpure PP shF base dst 56 (closedL args) frz H) := vcallE_pure sh56
theorem PP57 : PP 57 = some ir57 := rfl
@[go_sem] theorem sh57 : shF 57 = false := rfl
@[go_sem] theorem vc57 {base nt : Nat} {dst : Option Nat} {args : List DV} {frz : Bool} {H : VHeap} : vcall (F PP shF) shF base nt dst 57 args frz H = (mapO (frzD H 6) args).bind (vpure PP shF base dst 57 (closedL args) frz H) := vcall_pure sh57
@[go_sem] theorem ve57 {base nt : Nat} {dst : Option Nat} {args : List DV} {frz : Bool} {H : VHeap} : vcallE (F PP shF) shF base nt 57 args dst frz H = (mapO (frzD H 6) args).bind (vpure PP shF base dst 57 (closedL args) frz H) := vcallE_pure sh57
theorem PP59 : PP 59 = some ir59 := rfl
@[go_sem] theorem sh59 : shF 59 = false := rfl
@[go_sem] theorem vc59 {base nt : Nat} {dst : Option Nat} {args : List DV} {frz : Bool} {H : VHeap} : vcall (F PP shF) shF base nt dst 59 args frz H = (mapO (frzD H 6) args).bind (vpure PP shF base dst 59 (closedL args) frz H) := vcall_pure sh59
@[go_sem] theorem ve59 {base nt : Nat} {dst : Option Nat} {args : List DV} {frz : Bool} {H : VHeap} : vcallE (F PP shF) shF base nt 59 args dst frz H = (mapO (frzD H 6) args).bind (vpure PP shF base dst 59 (closedL args) frz H) := vcallE_pure sh59
theorem PP61 : PP 61 = some ir61 := rfl
@[go_sem] theorem sh61 : shF 61 = true := rfl
@[go_sem] theorem vc61 {base nt : Nat} {dst : Option Nat} {args : List DV} {H : VHeap} : vcall (F PP shF) shF base nt dst 61 args false H = (F PP shF 61 args H (max H.length (base + nt))).map fun r => (r.1, some r.2) := vcall_sh sh61
@[go_sem] theorem ve61 {base nt : Nat} {dst : Option Nat} {args : List DV} {H : VHeap} : vcallE (F PP shF) shF base nt 61 args dst false H = (F PP shF 61 args (keepV H (args.map refD).flatten) (max H.length (base + nt))).map fun r => (r.1, some (mergeV H (args.map refD).flatten r.2)) := vcallE_sh sh61
theorem PP62 : PP 62 = some ir62 := rfl
@[go_sem] theorem sh62 : shF 62 = true := rfl
@[go_sem] theorem vc62 {base nt : Nat} {dst : Option Nat} {args : List DV} {H : VHeap} : vcall (F PP shF) shF base nt dst 62 args false H = (F PP shF 62 args H (max H.length (base + nt))).map fun r => (r.1, some r.2) := vcall_sh sh62
@[go_sem] theorem ve62 {base nt : Nat} {dst : Option Nat} {args : List DV} {H : VHeap} : vcallE (F PP shF) shF base nt 62 args dst false H = (F PP shF 62 args (keepV H (args.map refD).flatten) (max H.length (base + nt))).map fun r => (r.1, some (mergeV H (args.map refD).flatten r.2)) := vcallE_sh sh62
theorem PP63 : PP 63 = some ir63 := rfl
@[go_sem] theorem sh63 : shF 63 = false := rfl
@[go_sem] theorem vc63 {base nt : Nat} {dst : Option Nat} {args : List DV} {frz : Bool} {H : VHeap} : vcall (F PP shF) shF base nt dst 63 args frz H = (mapO (frzD H 6) args).bind (vpure PP shF base dst 63 (closedL args) frz H) := vcall_pure sh63
@[go_sem] theorem ve63 {base nt : Nat} {dst : Option Nat} {args : List DV} {frz : Bool} {H : VHeap} : vcallE (F PP shF) shF base nt 63 args dst frz H = (mapO (frzD H 6) args).bind (vpure PP shF base dst 63 (closedL args) frz H) := vcallE_pure sh63
theorem PP64 : PP 64 = some ir64 := rfl
@[go_sem] theorem sh64 : shF 64 = false := rfl
@[go_sem] theorem vc64 {base nt : Nat} {dst : Option Nat} {args : List DV} {frz : Bool} {H : VHeap} : vcall (F PP shF) shF base nt dst 64 args frz H = (mapO (frzD H 6) args).bind (vpure PP shF base dst 64 (closedL args) frz H) := vcall_pure sh64
@[go_sem] theorem ve64 {base nt : Nat} {dst : Option Nat} {args : List DV} {frz : Bool} {H : VHeap} : vcallE (F PP shF) shF base nt 64 args dst frz H = (mapO (frzD H 6) args).bind (vpure PP shF base dst 64 (closedL args) frz H) := vcallE_pure sh64
theorem PP65 : PP 65 = some ir65 := rfl
@[go_sem] theorem sh65 : shF 65 = false := rfl
@[go_sem] theorem vc65 {base nt : Nat} {dst : Option Nat} {args : List DV} {frz : Bool} {H : VHeap} : vcall (F PP shF) shF base nt dst 65 args frz H = (mapO (frzD H 6) args).bind (vpure PP shF base dst 65 (closedL args) frz H) := vcall_pure sh65
@[go_sem] theorem ve65 {base nt : Nat} {dst : Option Nat} {args : List DV} {frz : Bool} {H : VHeap} : vcallE (F PP shF) shF base nt 65 args dst frz H = (mapO (frzD H 6) args).bind (vpure PP shF base dst 65 (closedL args) frz H) := vcallE_pure sh65
theorem PP66 : PP 66 = some ir66 := rfl
@[go_sem] theorem sh66 : shF 66 = false := rfl
@[go_sem] theorem vc66 {base nt : Nat} {dst : Option Nat} {args : List DV} {frz : Bool} {H : VHeap} : vcall (F PP shF) shF base nt dst 66 args frz H = (mapO (frzD H 6) args).bind (vpure PP shF base dst 66 (closedL args) frz H) := vcall_pure sh66
@[go_sem] theorem ve66 {base nt : Nat} {dst : Option Nat} {args : List DV} {frz : Bool} {H : VHeap} : vcallE (F PP shF) shF base nt 66 args dst frz H = (mapO (frzD H 6) args).bind (vpure PP shF base dst 66 (closedL args) frz H) := vcallE_pure sh66
theorem PP73 : PP 73 = some ir73 := rfl
@[go_sem] theorem sh73 : shF 73 = false := rfl
@[go_sem] theorem vc73 {base nt : Nat} {dst : Option Nat} {args : List DV} {frz : Bool} {H : VHeap} : vcall (F PP shF) shF base nt dst 73 args frz H = (mapO (frzD H 6) args).bind (vpure PP shF base dst 73 (closedL args) frz H) := vcall_pure sh73
@[go_sem] theorem ve73 {base nt : Nat} {dst : Option Nat} {args : List DV} {frz : Bool} {H : VHeap} : vcallE (F PP shF) shF base nt 73 args dst frz H = (mapO (frzD H 6) args).bind (vpure PP shF base dst 73 (closedL args) frz H) := vcallE_pure sh73
theorem PP76 : PP 76 = some ir76 := rfl
@[go_sem] theorem sh76 : shF 76 = false := rfl
@[go_sem] theorem vc76 {base nt : Nat} {dst : Option Nat} {args : List DV} {frz : Bool} {H : VHeap} : vcall (F PP shF) shF base nt dst 76 args frz H = (mapO (frzD H 6) args).bind (vpure PP shF base dst 76 (closedL args) frz H) := vcall_pure sh76
@[go_sem] theorem ve76 {base nt : Nat} {dst : Option Nat} {args : List DV} {frz : Bool} {H : VHeap} : vcallE (F PP shF) shF base nt 76 args dst frz H = (mapO (frzD H 6) args).bind (vpure PP shF base dst 76 (closedL args) frz H) := vcallE_pure sh76
theorem PP77 : PP 77 = some ir77 := rfl
@[go_sem] theorem sh77 : shF 77 = false := rfl
@[go_sem] theorem vc77 {base nt : Nat} {dst : Option Nat} {args : List DV} {frz : Bool} {H : VHeap} : vcall (F PP shF) shF base nt dst 77 args frz H = (mapO (frzD H 6) args).bind (vpure PP shF base dst 77 (closedL args) frz H) := vcall_pure sh77
@[go_sem] theorem ve77 {base nt : Nat} {dst : Option Nat} {args : List DV} {frz : Bool} {H : VHeap} : vcallE (F PP shF) shF base nt 77 args dst frz H = (mapO (frzD H 6) args).bind (vpure PP shF base dst 77 (closedL args) frz H) := vcallE_pure sh77
theorem PP79 : PP 79 = some ir79 := rfl
@[go_sem] theorem sh79 : shF 79 = false := rfl
@[go_sem] theorem vc79 {base nt : Nat} {dst : Option Nat} {args : List DV} {frz : Bool} {H : VHeap} : vcall (F PP shF) shF base nt dst 79 args frz H = (mapO (frzD H 6) args).bind (vpure PP shF base dst 79 (closedL args) frz H) := vcall_pure sh79
@[go_sem] theorem ve79 {base nt : Nat} {dst : Option Nat} {args : List DV} {frz : Bool} {H : VHeap} : vcallE (F PP shF) shF base nt 79 args dst frz H = (mapO (frzD H 6) args).bind (vpure PP shF base dst 79 (closedL args) frz H) := vcallE_pure sh79
theorem PP88 : PP 88 = some ir88 := rfl
@[go_sem] theorem sh88 : shF 88 = false := rfl
@[go_sem] theorem vc88 {base nt : Nat} {dst : Option Nat} {args : List DV} {frz : Bool} {H : VHeap} : vcall (F PP shF) shF base nt dst 88 args frz H = (mapO (frzD H 6) args).bind (vpure PP shF base dst 88 (closedL args) frz H) := vcall_pure sh88
@[go_sem] theorem ve88 {base nt : Nat} {dst : Option Nat} {args : List DV} {frz : Bool} {H : VHeap} : vcallE (F PP shF) shF base nt 88 args dst frz H = (mapO (frzD H 6) args).bind (vpure PP shF base dst 88 (closedL args) frz H) := vcallE_pure sh88
theorem PP90 : PP 90 = some ir90 := rfl
@[go_sem] theorem sh90 : shF 90 = false := rfl
@[go_sem] theorem vc90 {base nt : Nat} {dst : Option Nat} {args : List DV} {frz : Bool} {H : VHeap} : vcall (F PP shF) shF base nt dst 90 args frz H = (mapO (frzD H 6) args).bind (vpure PP shF base dst 90 (closedL args) frz H) := vcall_pure sh90
@[go_sem] theorem ve90 {base nt : Nat} {dst : Option Nat} {args : List DV} {frz : Bool} {H : VHeap} : vcallE (F PP shF) shF base nt 90 args dst frz H = (mapO (frzD H 6) args).bind (vpure PP shF base dst 90 (closedL args) frz H) := vcallE_pure sh90
theorem PP93 : PP 93 = some ir93 := rfl
@[go_sem] theorem sh93 : shF 93 = false := rfl
@[go_sem] theorem vc93 {base nt : Nat} {dst : Option Nat} {args : List DV} {frz : Bool} {H : VHeap} : vcall (F PP shF) shF base nt dst 93 args frz H = (mapO (frzD H 6) args).bind (vpure PP shF base dst 93 (closedL args) frz H) := vcall_pure sh93
@[go_sem] theorem ve93 {base nt : Nat} {dst : Option Nat} {args : List DV} {frz : Bool} {H : VHeap} : vcallE (F PP shF) shF base nt 93 args dst frz H = (mapO (frzD H 6) args).bind (vpure PP shF base dst 93 (closedL args) frz H) := vcallE_pure sh93
theorem PP97 : PP 97 = some ir97 := rfl
@[go_sem] theorem sh97 : shF 97 = false := rfl
@[go_sem] theorem vc97 {base nt : Nat} {dst : Option Nat} {args : List DV} {frz : Bool} {H : VHeap} : vcall (F PP shF) shF base nt dst 97 args frz H = (mapO (frzD H 6) args).bind (vpure PP shF base dst 97 (closedL args) frz H) := vcall_pure sh97
@[go_sem] theorem ve97 {base nt : Nat} {dst : Option Nat} {args : List DV} {frz : Bool} {H : VHeap} : vcallE (F PP shF) shF base nt 97 args dst frz H = (mapO (frzD H 6) args).bind (vpure PP shF base dst 97 (closedL args) frz H) := vcallE_pure sh97
theorem PP103 : PP 103 = some ir103 := rfl
@[go_sem] theorem sh103 : shF 103 = false := rfl
@[go_sem] theorem vc103 {base nt : Nat} {dst : Option Nat} {args : List DV} {frz : Bool} {H : VHeap} : vcall (F PP shF) shF base nt dst 103 args frz H = (mapO (frzD H 6) args).bind (vpure PP shF base dst 103 (closedL args) frz H) := vcall_pure sh103
@[go_sem] theorem ve103 {base nt : Nat} {dst : Option Nat} {args : List DV} {frz : Bool} {H : VHeap} : vcallE (F PP shF) shF base nt 103 args dst frz H = (mapO (frzD H 6) args).bind (vpure PP shF base dst 103 (closedL args) frz H) := vcallE_pure sh103
theorem PP105 : PP 105 = some ir105 := rfl
@[go_sem] theorem sh105 : shF 105 = true := rfl
@[go_sem] theorem vc105 {base nt : Nat} {dst : Option Nat} {args : List DV} {H : VHeap} : vcall (F PP shF) shF base nt dst 105 args false H = (F PP shF 105 args H (max H.length (base + nt))).map fun r => (r.1, some r.2) := vcall_sh sh105
@[go_sem] theorem ve105 {base nt : Nat} {dst : Option Nat} {args : List DV} {H : VHeap} : vcallE (F PP shF) shF base nt 105 args dst false H = (F PP shF 105 args (keepV H (args.map refD).flatten) (max H.length (base + nt))).map fun r => (r.1, some (mergeV H (args.map refD).flatten r.2)) := vcallE_sh sh105
theorem PP110 : PP 110 = some ir110 := rfl
@[go_sem] theorem sh110 : shF 110 = true := rfl
@[go_sem] theorem vc110 {base nt : Nat} {dst : Option Nat} {args : List DV} {H : VHeap} : vcall (F PP shF) shF base nt dst 110 args false H = (F PP shF 110 args H (max H.length (base + nt))).map fun r => (r.1, some r.2) := vcall_sh sh110
@[go_sem] theorem ve110 {base nt : Nat} {dst : Option Nat} {args : List DV} {H : VHeap} : vcallE (F PP shF) shF base nt 110 args dst false H = (F PP shF 110 args (keepV H (args.map refD).flatten) (max H.length (base + nt))).map fun r => (r.1, some (mergeV H (args.map refD).flatten r.2)) := vcallE_sh sh110
theorem PP113 : PP 113 = some ir113 := rfl
@[go_sem] theorem sh113 : shF 113 = false := rfl
@[go_sem] theorem vc113 {base nt : Nat} {dst : Option Nat} {args : List DV} {frz : Bool} {H : VHeap} : vcall (F PP shF) shF base nt dst 113 args frz H = (mapO (frzD H 6) args).bind (vpure PP shF base dst 113 (closedL args) frz H) := vcall_pure sh113
@[go_sem] theorem ve113 {base nt : Nat} {dst : Option Nat} {args : List DV} {frz : Bool} {H : VHeap} : vcallE (F PP shF) shF base nt 113 args dst frz H = (mapO (frzD H 6) args).bind (vpure PP shF base dst 113 (closedL args) frz H) := vcallE_pure sh113
theorem PP114 : PP 114 = some ir114 := rfl
@[go_sem] theorem sh114 : shF 114 = false := rfl
@[go_sem] theorem vc114 {base nt : Nat} {dst : Option Nat} {args : List DV} {frz : Bool} {H : VHeap} : vcall (F PP shF) shF base nt dst 114 args frz H = (mapO (frzD H 6) args).bind (vpure PP shF base dst 114 (closedL args) frz H) := vcall_pure sh114
@[go_sem] theorem ve114 {base nt : Nat} {dst : Option Nat} {args : List DV} {frz : Bool} {H : VHeap} : vcallE (F PP shF) shF base nt 114 args dst frz H = (mapO (frzD H 6) args).bind (vpure PP shF base dst 114 (closedL args) frz H) := vcallE_pure sh114
theorem PP116 : PP 116 = some ir116 := rfl
@[go_sem] theorem sh116 : shF 116 = true := rfl
@[go_sem] theorem vc116 {base nt : Nat} {dst : Option Nat} {args : List DV} {H : VHeap} : vcall (F PP shF) shF base nt dst 116 args false H = (F PP shF 116 args H (max H.length (base + nt))).map fun r => (r.1, some r.2) := vcall_sh sh116
@[go_sem] theorem ve116 {base nt : Nat} {dst : Option Nat} {args : List DV} {H : VHeap} : vcallE (F PP shF) shF base nt 116 args dst false H = (F PP shF 116 args (keepV H (args.map refD).flatten) (max H.length (base + nt))).map fun r => (r.1, some (mergeV H (args.map refD).flatten r.2)) := vcallE_sh sh116
theorem PP117 : PP 117 = some ir117 := rfl
@[go_sem] theorem sh117 : shF 117 = false := rfl
@[go_sem] theorem vc117 {base nt : Nat} {dst : Option Nat} {args : List DV} {frz : Bool} {H : VHeap} : vcall (F PP shF) shF base nt dst 117 args frz H = (mapO (frzD H 6) args).bind (vpure PP shF base dst 117 (closedL args) frz H) := vcall_pure sh117
@[go_sem] theorem ve117 {base nt : Nat} {dst : Option Nat} {args : List DV} {frz : Bool} {H : VHeap} : vcallE (F PP shF) shF base nt 117 args dst frz H = (mapO (frzD H 6) args).bind (vpure PP shF base dst 117 (closedL args) frz H) := vcallE_pure sh117
theorem PP118 : PP 118 = some ir118 := rfl
@[go_sem] theorem sh118 : shF 118 = false := rfl
@[go_sem] theorem vc118 {base nt : Nat} {dst : Option Nat} {args : List DV} {frz : Bool} {H : VHeap} : vcall (F PP shF) shF base nt dst 118 args frz H = (mapO (frzD H 6) args).bind (vpure PP shF base dst 118 (closedL args) frz H) := vcall_pure sh118
@[go_sem] theorem ve118 {base nt : Nat} {dst : Option Nat} {args : List DV} {frz : Bool} {H : VHeap} : vcallE (F PP shF) shF base nt 118 args dst frz H = (mapO (frzD H 6) args).bind (vpure PP shF base dst 118 (closedL args) frz H) := vcallE_pure sh118
theorem PP119 : PP 119 = some ir119 := rfl
@[go_sem] theorem sh119 : shF 119 = true := rfl
@[go_sem] theorem vc119 {base nt : Nat} {dst : Option Nat} {args : List DV} {H : VHeap} : vcall (F PP shF) shF base nt dst 119 args false H = (F PP shF 119 args H (max H.length (base + nt))).map fun r => (r.1, some r.2) := vcall_sh sh119
@[go_sem] theorem ve119 {base nt : Nat} {dst : Option Nat} {args : List DV} {H : VHeap} : vcallE (F PP shF) shF base nt 119 args dst false H = (F PP shF 119 args (keepV H (args.map refD).flatten) (max H.length (base + nt))).map fun r => (r.1, some (mergeV H (args.map refD).flatten r.2)) := vcallE_sh sh119
theorem PP120 : PP 120 = some ir120 := rfl
@[go_sem] theorem sh120 : shF 120 = true := rfl
@[go_sem] theorem vc120 {base nt : Nat} {dst : Option Nat} {args : List DV} {H : VHeap} : vcall (F PP shF) shF base nt dst 120 args false H = (F PP shF 120 args H (max H.length (base + nt))).map fun r => (r.1, some r.2) := vcall_sh sh120
@[go_sem] theorem ve120 {base nt : Nat} {dst : Option Nat} {args : List DV} {H : VHeap} : vcallE (F PP shF) shF base nt 120 args dst false H = (F PP shF 120 args (keepV H (args.map refD).flatten) (max H.length (base + nt))).map fun r => (r.1, some (mergeV H (args.map refD).flatten r.2)) := vcallE_sh sh120
theorem PP121 : PP 121 = some ir121 := rfl
@[go_sem] theorem sh121 : shF 121 = false := rfl
@[go_sem] theorem vc121 {base nt : Nat} {dst : Option Nat} {args : List DV} {frz : Bool} {H : VHeap} : vcall (F PP shF) shF base nt dst 121 args frz H = (mapO (frzD H 6) args).bind (vpure PP shF base dst 121 (closedL args) frz H) := vcall_pure sh121
@[go_sem] theorem ve121 {base nt : Nat} {dst : Option Nat} {args : List DV} {frz : Bool} {H : VHeap} : vcallE (F PP shF) shF base nt 121 args dst frz H = (mapO (frzD H 6) args).bind (vpure PP shF base dst 121 (closedL args) frz H) := vcallE_pure sh121
theorem PP122 : PP 122 = some ir122 := rfl
@[go_sem] theorem sh122 : shF 122 = false := rfl
@[go_sem] theorem vc122 {base nt : Nat} {dst : Option Nat} {args : List DV} {frz : Bool} {H : VHeap} : vcall (F PP shF) shF base nt dst 122 args frz H = (mapO (frzD H 6) args).bind (vpure PP shF base dst 122 (closedL args) frz H) := vcall_pure sh122
@[go_sem] theorem ve122 {base nt : Nat} {dst : Option Nat} {args : List DV} {frz : Bool} {H : VHeap} : vcallE (F PP shF) shF base nt 122 args dst frz H = (mapO (frzD H 6) args).bind (vpure PP shF base dst 122 (closedL args) frz H) := vcallE_pure sh122
theorem PP123 : PP 123 = some ir123 := rfl
@[go_sem] theorem sh123 : shF 123 = true := rfl
@[go_sem] theorem vc123 {base nt : Nat} {dst : Option Nat} {args : List DV} {H : VHeap} : vcall (F PP shF) shF base nt dst 123 args false H = (F PP shF 123 args H (max H.length (base + nt))).map fun r => (r.1, some r.2) := vcall_sh sh123
@[go_sem] theorem ve123 {base nt : Nat} {dst : Option Nat} {args : List DV} {H : VHeap} : vcallE (F PP shF) shF base nt 123 args dst false H = (F PP shF 123 args (keepV H (args.map refD).flatten) (max H.length (base + nt))).map fun r => (r.1, some (mergeV H (args.map refD).flatten r.2)) := vcallE_sh sh123
theorem PP124 : PP 124 = some ir124 := rfl
@[go_sem] theorem sh124 : shF 124 = true := rfl
@[go_sem] theorem vc124 {base nt : Nat} {dst : Option Nat} {args : List DV} {H : VHeap} : vcall (F PP shF) shF base nt dst 124 args false H = (F PP shF 124 args H (max H.length (base + nt))).map fun r => (r.1, some r.2) := vcall_sh sh124
@[go_sem] theorem ve124 {base nt : Nat} {dst : Option Nat} {args : List DV} {H : VHeap} : vcallE (F PP shF) shF base nt 124 args dst false H = (F PP shF 124 args (keepV H (args.map refD).flatten) (max H.length (base + nt))).map fun r => (r.1, some (mergeV H (args.map refD).flatten r.2)) := vcallE_sh sh124
theorem PP125 : PP 125 = some ir125 := rfl
@[go_sem] theorem sh125 : shF 125 = true := rfl
@[go_sem] theorem vc125 {base nt : Nat} {dst : Option Nat} {args : List DV} {H : VHeap} : vcall (F PP shF) shF base nt dst 125 args false H = (F PP shF 125 args H (max H.length (base + nt))).map fun r => (r.1, some r.2) := vcall_sh sh125
@[go_sem] theorem ve125 {base nt : Nat} {dst : Option Nat} {args : List DV} {H : VHeap} : vcallE (F PP shF) shF base nt 125 args dst false H = (F PP shF 125 args (keepV H (args.map refD).flatten) (max H.length (base + nt))).map fun r => (r.1, some (mergeV H (args.map refD).flatten r.2)) := vcallE_sh sh125
theorem PP126 : PP 126 = some ir126 := rfl
@[go_sem] theorem sh126 : shF 126 = false := rfl
@[go_sem] theorem vc126 {base nt : Nat} {dst : Option Nat} {args : List DV} {frz : Bool} {H : VHeap} : vcall (F PP shF) shF base nt dst 126 args frz H = (mapO (frzD H 6) args).bind (vpure PP shF base dst 126 (closedL args) frz H) := vcall_pure sh126
@[go_sem] theorem ve126 {base nt : Nat} {dst : Option Nat} {args : List DV} {frz : Bool} {H : VHeap} : vcallE (F PP shF) shF base nt 126 args dst frz H = (mapO (frzD H 6) args).bind (vpure PP shF base dst 126 (closedL args) frz H) := vcallE_pure sh126
theorem PP127 : PP 127 = some ir127 := rfl
@[go_sem] theorem sh127 : shF 127 = true := rfl
@[go_sem] theorem vc127 {base nt : Nat} {dst : Option Nat} {args : List DV} {H : VHeap} : vcall (F PP shF) shF base nt dst 127 args false H = (F PP shF 127 args H (max H.length (base + nt))).map fun r => (r.1, some r.2) := vcall_sh sh127
@[go_sem] theorem ve127 {base nt : Nat} {dst : Option Nat} {args : List DV} {H : VHeap} : vcallE (F PP shF) shF base nt 127 args dst false H = (F PP shF 127 args (keepV H (args.map refD).flatten) (max H.length (base + nt))).map fun r => (r.1, some (mergeV H (args.map refD).flatten r.2)) := vcallE_sh sh127
theorem PP128 : PP 128 = some ir128 := rfl
@[go_sem] theorem sh128 : shF 128 = true := rfl
@[go_sem] theorem vc128 {base nt : Nat} {dst : Option Nat} {args : List DV} {H : VHeap} : vcall (F PP shF) shF base nt dst 128 args false H = (F PP shF 128 args H (max H.length (base + nt))).map fun r => (r.1, some r.2) := vcall_sh sh128
@[go_sem] theorem ve128 {base nt : Nat} {dst : Option Nat} {args : List DV} {H : VHeap} : vcallE (F PP shF) shF base nt 128 args dst false H = (F PP shF 128 args (keepV H (args.map refD).flatten) (max H.length (base + nt))).map fun r => (r.1, some (mergeV H (args.map refD).flatten r.2)) := vcallE_sh sh128
theorem PP129 : PP 129 = some ir129 := rfl
@[go_sem] theorem sh129 : shF 129 = true := rfl
@[go_sem] theorem vc129 {base nt : Nat} {dst : Option Nat} {args : List DV} {H : VHeap} : vcall (F PP shF) shF base nt dst 129 args false H = (F PP shF 129 args H (max H.length (base + nt))).map fun r => (r.1, some r.2) := vcall_sh sh129
@[go_sem] theorem ve129 {base nt : Nat} {dst : Option Nat} {args : List DV} {H : VHeap} : vcallE (F PP shF) shF base nt 129 args dst false H = (F PP shF 129 args (keepV H (args.map refD).flatten) (max H.length (base + nt))).map fun r => (r.1, some (mergeV H (args.map refD).flatten r.2)) := vcallE_sh sh129
theorem PP130 : PP 130 = some ir130 := rfl
@[go_sem] theorem sh130 : shF 130 = true := rfl
@[go_sem] theorem vc130 {base nt : Nat} {dst : Option Nat} {args : List DV} {H : VHeap} : vcall (F PP shF) shF base nt dst 130 args false H = (F PP shF 130 args H (max H.length (base + nt))).map fun r => (r.1, some r.2) := vcall_sh sh130
@[go_sem] theorem ve130 {base nt : Nat} {dst : Option Nat} {args : List DV} {H : VHeap} : vcallE (F PP shF) shF base nt 130 args dst false H = (F PP shF 130 args (keepV H (args.map refD).flatten) (max H.length (base + nt))).map fun r => (r.1, some (mergeV H (args.map refD).flatten r.2)) := vcallE_sh sh130

end Go.Proofs.Cp
