/- The program, as the machine has it (written by mkglobal.py). -/
import Derived.Test.YthamjdhggcmpgaaIr0
import Derived.Test.YthamjdhggcmpgaaCpOk
set_option maxRecDepth 100000
set_option linter.unusedVariables false
namespace Go.Proofs.Cp
open Go
def shL : List Nat := [50, 61, 62]
def shF (f : Nat) : Bool := shL.contains f
def tblPP : List (Nat × IFun) := [(5, ir5), (11, ir11), (15, ir15), (16, ir16), (26, ir26), (27, ir27), (28, ir28), (29, ir29), (30, ir30), (31, ir31), (33, ir33), (35, ir35), (37, ir37), (39, ir39), (48, ir48), (50, ir50), (60, ir60), (61, ir61), (62, ir62), (63, ir63), (64, ir64), (65, ir65), (66, ir66), (67, ir67), (68, ir68), (69, ir69), (70, ir70), (71, ir71), (72, ir72), (73, ir73), (79, ir79)]
def lkp (f : Nat) : List (Nat × IFun) → Option IFun
  | [] => none
  | p :: l => if p.1 = f then some p.2 else lkp f l
def PP : Prog := fun f => lkp f tblPP
theorem lkp_mem {f : Nat} {fn : IFun} : ∀ {l : List (Nat × IFun)}, lkp f l = some fn → (f, fn) ∈ l
  | [], h => by simp [lkp] at h
  | p :: l, h => by
    simp only [lkp] at h
    split at h
    · rename_i hp; simp at h; subst h; subst hp; simp
    · exact List.mem_cons_of_mem _ (lkp_mem h)
theorem PP5 : PP 5 = some ir5 := rfl
@[go_sem] theorem sh5 : shF 5 = false := rfl
@[go_sem] theorem vc5 {base nt : Nat} {dst : Option Nat} {args : List DV} {frz : Bool} {H : VHeap} : vcall (F PP shF) shF base nt dst 5 args frz H = (mapO (frzD H 6) args).bind (vpure PP shF base dst 5 (closedL args) frz H) := vcall_pure sh5
@[go_sem] theorem ve5 {base nt : Nat} {dst : Option Nat} {args : List DV} {frz : Bool} {H : VHeap} : vcallE (F PP shF) shF base nt 5 args dst frz H = (mapO (frzD H 6) args).bind (vpure PP shF base dst 5 (closedL args) frz H) := vcallE_pure sh5
theorem PP11 : PP 11 = some ir11 := rfl
@[go_sem] theorem sh11 : shF 11 = false := rfl
@[go_sem] theorem vc11 {base nt : Nat} {dst : Option Nat} {args : List DV} {frz : Bool} {H : VHeap} : vcall (F PP shF) shF base nt dst 11 args frz H = (mapO (frzD H 6) args).bind (vpure PP shF base dst 11 (closedL args) frz H) := vcall_pure sh11
@[go_sem] theorem ve11 {base nt : Nat} {dst : Option Nat} {args : List DV} {frz : Bool} {H : VHeap} : vcallE (F PP shF) shF base nt 11 args dst frz H = (mapO (frzD H 6) args).bind (vpure PP shF base dst 11 (closedL args) frz H) := vcallE_pure sh11
theorem PP15 : PP 15 = some ir15 := rfl
@[go_sem] theorem sh15 : shF 15 = false := rfl
@[go_sem] theorem vc15 {base nt : Nat} {dst : Option Nat} {args : List DV} {frz : Bool} {H : VHeap} : vcall (F PP shF) shF base nt dst 15 args frz H = (mapO (frzD H 6) args).bind (vpure PP shF base dst 15 (closedL args) frz H) := vcall_pure sh15
@[go_sem] theorem ve15 {base nt : Nat} {dst : Option Nat} {args : List DV} {frz : Bool} {H : VHeap} : vcallE (F PP shF) shF base nt 15 args dst frz H = (mapO (frzD H 6) args).bind (vpure PP shF base dst 15 (closedL args) frz H) := vcallE_pure sh15
theorem PP16 : PP 16 = some ir16 := rfl
@[go_sem] theorem sh16 : shF 16 = false := rfl
@[go_sem] theorem vc16 {base nt : Nat} {dst : Option Nat} {args : List DV} {frz : Bool} {H : VHeap} : vcall (F PP shF) shF base nt dst 16 args frz H = (mapO (frzD H 6) args).bind (vpure PP shF base dst 16 (closedL args) frz H) := vcall_pure sh16
@[go_sem] theorem ve16 {base nt : Nat} {dst : Option Nat} {args : List DV} {frz : Bool} {H : VHeap} : vcallE (F PP shF) shF base nt 16 args dst frz H = (mapO (frzD H 6) args).bind (vpure PP shF base dst 16 (closedL args) frz H) := vcallE_pure sh16
theorem PP26 : PP 26 = some ir26 := rfl
@[go_sem] theorem sh26 : shF 26 = false := rfl
@[go_sem] theorem vc26 {base nt : Nat} {dst : Option Nat} {args : List DV} {frz : Bool} {H : VHeap} : vcall (F PP shF) shF base nt dst 26 args frz H = (mapO (frzD H 6) args).bind (vpure PP shF base dst 26 (closedL args) frz H) := vcall_pure sh26
@[go_sem] theorem ve26 {base nt : Nat} {dst : Option Nat} {args : List DV} {frz : Bool} {H : VHeap} : vcallE (F PP shF) shF base nt 26 args dst frz H = (mapO (frzD H 6) args).bind (vpure PP shF base dst 26 (closedL args) frz H) := vcallE_pure sh26
theorem PP27 : PP 27 = some ir27 := rfl
@[go_sem] theorem sh27 : shF 27 = false := rfl
@[go_sem] theorem vc27 {base nt : Nat} {dst : Option Nat} {args : List DV} {frz : Bool} {H : VHeap} : vcall (F PP shF) shF base nt dst 27 args frz H = (mapO (frzD H 6) args).bind (vpure PP shF base dst 27 (closedL args) frz H) := vcall_pure sh27
@[go_sem] theorem ve27 {base nt : Nat} {dst : Option Nat} {args : List DV} {frz : Bool} {H : VHeap} : vcallE (F PP shF) shF base nt 27 args dst frz H = (mapO (frzD H 6) args).bind (vpure PP shF base dst 27 (closedL args) frz H) := vcallE_pure sh27
theorem PP28 : PP 28 = some ir28 := rfl
@[go_sem] theorem sh28 : shF 28 = false := rfl
@[go_sem] theorem vc28 {base nt : Nat} {dst : Option Nat} {args : List DV} {frz : Bool} {H : VHeap} : vcall (F PP shF) shF base nt dst 28 args frz H = (mapO (frzD H 6) args).bind (vpure PP shF base dst 28 (closedL args) frz H) := vcall_pure sh28
@[go_sem] theorem ve28 {base nt : Nat} {dst : Option Nat} {args : List DV} {frz : Bool} {H : VHeap} : vcallE (F PP shF) shF base nt 28 args dst frz H = (mapO (frzD H 6) args).bind (vpure PP shF base dst 28 (closedL args) frz H) := vcallE_pure sh28
theorem PP29 : PP 29 = some ir29 := rfl
@[go_sem] theorem sh29 : shF 29 = false := rfl
@[go_sem] theorem vc29 {base nt : Nat} {dst : Option Nat} {args : List DV} {frz : Bool} {H : VHeap} : vcall (F PP shF) shF base nt dst 29 args frz H = (mapO (frzD H 6) args).bind (vpure PP shF base dst 29 (closedL args) frz H) := vcall_pure sh29
@[go_sem] theorem ve29 {base nt : Nat} {dst : Option Nat} {args : List DV} {frz : Bool} {H : VHeap} : vcallE (F PP shF) shF base nt 29 args dst frz H = (mapO (frzD H 6) args).bind (vpure PP shF base dst 29 (closedL args) frz H) := vcallE_pure sh29
theorem PP30 : PP 30 = some ir30 := rfl
@[go_sem] theorem sh30 : shF 30 = false := rfl
@[go_sem] theorem vc30 {base nt : Nat} {dst : Option Nat} {args : List DV} {frz : Bool} {H : VHeap} : vcall (F PP shF) shF base nt dst 30 args frz H = (mapO (frzD H 6) args).bind (vpure PP shF base dst 30 (closedL args) frz H) := vcall_pure sh30
@[go_sem] theorem ve30 {base nt : Nat} {dst : Option Nat} {args : List DV} {frz : Bool} {H : VHeap} : vcallE (F PP shF) shF base nt 30 args dst frz H = (mapO (frzD H 6) args).bind (vpure PP shF base dst 30 (closedL args) frz H) := vcallE_pure sh30
theorem PP31 : PP 31 = some ir31 := rfl
@[go_sem] theorem sh31 : shF 31 = false := rfl
@[go_sem] theorem vc31 {base nt : Nat} {dst : Option Nat} {args : List DV} {frz : Bool} {H : VHeap} : vcall (F PP shF) shF base nt dst 31 args frz H = (mapO (frzD H 6) args).bind (vpure PP shF base dst 31 (closedL args) frz H) := vcall_pure sh31
@[go_sem] theorem ve31 {base nt : Nat} {dst : Option Nat} {args : List DV} {frz : Bool} {H : VHeap} : vcallE (F PP shF) shF base nt 31 args dst frz H = (mapO (frzD H 6) args).bind (vpure PP shF base dst 31 (closedL args) frz H) := vcallE_pure sh31
theorem PP33 : PP 33 = some ir33 := rfl
@[go_sem] theorem sh33 : shF 33 = false := rfl
@[go_sem] theorem vc33 {base nt : Nat} {dst : Option Nat} {args : List DV} {frz : Bool} {H : VHeap} : vcall (F PP shF) shF base nt dst 33 args frz H = (mapO (frzD H 6) args).bind (vpure PP shF base dst 33 (closedL args) frz H) := vcall_pure sh33
@[go_sem] theorem ve33 {base nt : Nat} {dst : Option Nat} {args : List DV} {frz : Bool} {H : VHeap} : vcallE (F PP shF) shF base nt 33 args dst frz H = (mapO (frzD H 6) args).bind (vpure PP shF base dst 33 (closedL args) frz H) := vcallE_pure sh33
theorem PP35 : PP 35 = some ir35 := rfl
@[go_sem] theorem sh35 : shF 35 = false := rfl
@[go_sem] theorem vc35 {base nt : Nat} {dst : Option Nat} {args : List DV} {frz : Bool} {H : VHeap} : vcall (F PP shF) shF base nt dst 35 args frz H = (mapO (frzD H 6) args).bind (vpure PP shF base dst 35 (closedL args) frz H) := vcall_pure sh35
@[go_sem] theorem ve35 {base nt : Nat} {dst : Option Nat} {args : List DV} {frz : Bool} {H : VHeap} : vcallE (F PP shF) shF base nt 35 args dst frz H = (mapO (frzD H 6) args).bind (vpure PP shF base dst 35 (closedL args) frz H) := vcallE_pure sh35
theorem PP37 : PP 37 = some ir37 := rfl
@[go_sem] theorem sh37 : shF 37 = false := rfl
@[go_sem] theorem vc37 {base nt : Nat} {dst : Option Nat} {args : List DV} {frz : Bool} {H : VHeap} : vcall (F PP shF) shF base nt dst 37 args frz H = (mapO (frzD H 6) args).bind (vpure PP shF base dst 37 (closedL args) frz H) := vcall_pure sh37
@[go_sem] theorem ve37 {base nt : Nat} {dst : Option Nat} {args : List DV} {frz : Bool} {H : VHeap} : vcallE (F PP shF) shF base nt 37 args dst frz H = (mapO (frzD H 6) args).bind (vpure PP shF base dst 37 (closedL args) frz H) := vcallE_pure sh37
theorem PP39 : PP 39 = some ir39 := rfl
@[go_sem] theorem sh39 : shF 39 = false := rfl
@[go_sem] theorem vc39 {base nt : Nat} {dst : Option Nat} {args : List DV} {frz : Bool} {H : VHeap} : vcall (F PP shF) shF base nt dst 39 args frz H = (mapO (frzD H 6) args).bind (vpure PP shF base dst 39 (closedL args) frz H) := vcall_pure sh39
@[go_sem] theorem ve39 {base nt : Nat} {dst : Option Nat} {args : List DV} {frz : Bool} {H : VHeap} : vcallE (F PP shF) shF base nt 39 args dst frz H = (mapO (frzD H 6) args).bind (vpure PP shF base dst 39 (closedL args) frz H) := vcallE_pure sh39
theorem PP48 : PP 48 = some ir48 := rfl
@[go_sem] theorem sh48 : shF 48 = false := rfl
@[go_sem] theorem vc48 {base nt : Nat} {dst : Option Nat} {args : List DV} {frz : Bool} {H : VHeap} : vcall (F PP shF) shF base nt dst 48 args frz H = (mapO (frzD H 6) args).bind (vpure PP shF base dst 48 (closedL args) frz H) := vcall_pure sh48
@[go_sem] theorem ve48 {base nt : Nat} {dst : Option Nat} {args : List DV} {frz : Bool} {H : VHeap} : vcallE (F PP shF) shF base nt 48 args dst frz H = (mapO (frzD H 6) args).bind (vpure PP shF base dst 48 (closedL args) frz H) := vcallE_pure sh48
theorem PP50 : PP 50 = some ir50 := rfl
@[go_sem] theorem sh50 : shF 50 = true := rfl
@[go_sem] theorem vc50 {base nt : Nat} {dst : Option Nat} {args : List DV} {H : VHeap} : vcall (F PP shF) shF base nt dst 50 args false H = (F PP shF 50 args H (max H.length (base + nt))).map fun r => (r.1, some r.2) := vcall_sh sh50
@[go_sem] theorem ve50 {base nt : Nat} {dst : Option Nat} {args : List DV} {H : VHeap} : vcallE (F PP shF) shF base nt 50 args dst false H = (F PP shF 50 args (keepV H (args.map refD).flatten) (max H.length (base + nt))).map fun r => (r.1, some (mergeV H (args.map refD).flatten r.2)) := vcallE_sh sh50
theorem PP60 : PP 60 = some ir60 := rfl
@[go_sem] theorem sh60 : shF 60 = false := rfl
@[go_sem] theorem vc60 {base nt : Nat} {dst : Option Nat} {args : List DV} {frz : Bool} {H : VHeap} : vcall (F PP shF) shF base nt dst 60 args frz H = (mapO (frzD H 6) args).bind (vpure PP shF base dst 60 (closedL args) frz H) := vcall_pure sh60
@[go_sem] theorem ve60 {base nt : Nat} {dst : Option Nat} {args : List DV} {frz : Bool} {H : VHeap} : vcallE (F PP shF) shF base nt 60 args dst frz H = (mapO (frzD H 6) args).bind (vpure PP shF base dst 60 (closedL args) frz H) := vcallE_pure sh60
theorem PP61 : PP 61 = some ir61 := rfl
@[go_sem] theorem sh61 : shF 61 = true := rfl
@[go_sem] theorem vc61 {base nt : Nat} {dst : Option Nat} {args : List DV} {H : VHeap} : vcall (F PP shF) shF base nt dst 61 args false H = (F PP shF 61 args H (max H.length (base + nt))).map fun r => (r.1, some r.2) := vcall_sh sh61
@[go_sem] theorem ve61 {base nt : Nat} {dst : Option Nat} {args : List DV} {H : VHeap} : vcallE (F PP shF) shF base nt 61 args dst false H = (F PP shF 61 args (keepV H (args.map refD).flatten) (max H.length (base + nt))).map fun r => (r.1, some (mergeV H (args.map refD).flatten r.2)) := vcallE_sh sh61
theorem PP62 : PP 62 = some ir62 := rfl
@[go_sem] theorem sh62 : shF 62 = true := rfl
@[go_sem] theorem vc62 {base nt : Nat} {dst : Option Nat} {args : List DV} {H : VHeap} : vcall (F PP shF) shF base nt dst 62 args false H = (F PP shF 62 args H (max H.length (base + nt))).map fun r => (r.1, some r.2) := vcall_sh sh62
@[go_sem] theorem ve62 {base nt : Nat} {dst : Option Nat} {args : List DV} {H : VHeap} : vcallE (F PP shF) shF base nt 62 args dst false H = (F PP shF 62 args (keepV H (args.map refD).flatten) (max H.length (base + nt))).map fun r => (r.1, some (mergeV H (args.map refD).flatten r.2)) := vcallE_sh sh62
theorem PP63 : PP 63 = some ir63 := rfl
@[go_sem] theorem sh63 : shF 63 = false := rfl
@[go_sem] theorem vc63 {base nt : Nat} {dst : Option Nat} {args : List DV} {frz : Bool} {H : VHeap} : vcall (F PP shF) shF base nt dst 63 args frz H = (mapO (frzD H 6) args).bind (vpure PP shF base dst 63 (closedL args) frz H) := vcall_pure sh63
@[go_sem] theorem ve63 {base nt : Nat} {dst : Option Nat} {args : List DV} {frz : Bool} {H : VHeap} : vcallE (F PP shF) shF base nt 63 args dst frz H = (mapO (frzD H 6) args).bind (vpure PP shF base dst 63 (closedL args) frz H) := vcallE_pure sh63
theorem PP64 : PP 64 = some ir64 := rfl
@[go_sem] theorem sh64 : shF 64 = false := rfl
@[go_sem] theorem vc64 {base nt : Nat} {dst : Option Nat} {args : List DV} {frz : Bool} {H : VHeap} : vcall (F PP shF) shF base nt dst 64 args frz H = (mapO (frzD H 6) args).bind (vpure PP shF base dst 64 (closedL args) frz H) := vcall_pure sh64
@[go_sem] theorem ve64 {base nt : Nat} {dst : Option Nat} {args : List DV} {frz : Bool} {H : VHeap} : vcallE (F PP shF) shF base nt 64 args dst frz H = (mapO (frzD H 6) args).bind (vpure PP shF base dst 64 (closedL args) frz H) := vcallE_pure sh64
theorem PP65 : PP 65 = some ir65 := rfl
@[go_sem] theorem sh65 : shF 65 = false := rfl
@[go_sem] theorem vc65 {base nt : Nat} {dst : Option Nat} {args : List DV} {frz : Bool} {H : VHeap} : vcall (F PP shF) shF base nt dst 65 args frz H = (mapO (frzD H 6) args).bind (vpure PP shF base dst 65 (closedL args) frz H) := vcall_pure sh65
@[go_sem] theorem ve65 {base nt : Nat} {dst : Option Nat} {args : List DV} {frz : Bool} {H : VHeap} : vcallE (F PP shF) shF base nt 65 args dst frz H = (mapO (frzD H 6) args).bind (vpure PP shF base dst 65 (closedL args) frz H) := vcallE_pure sh65
theorem PP66 : PP 66 = some ir66 := rfl
@[go_sem] theorem sh66 : shF 66 = false := rfl
@[go_sem] theorem vc66 {base nt : Nat} {dst : Option Nat} {args : List DV} {frz : Bool} {H : VHeap} : vcall (F PP shF) shF base nt dst 66 args frz H = (mapO (frzD H 6) args).bind (vpure PP shF base dst 66 (closedL args) frz H) := vcall_pure sh66
@[go_sem] theorem ve66 {base nt : Nat} {dst : Option Nat} {args : List DV} {frz : Bool} {H : VHeap} : vcallE (F PP shF) shF base nt 66 args dst frz H = (mapO (frzD H 6) args).bind (vpure PP shF base dst 66 (closedL args) frz H) := vcallE_pure sh66
theorem PP67 : PP 67 = some ir67 := rfl
@[go_sem] theorem sh67 : shF 67 = false := rfl
@[go_sem] theorem vc67 {base nt : Nat} {dst : Option Nat} {args : List DV} {frz : Bool} {H : VHeap} : vcall (F PP shF) shF base nt dst 67 args frz H = (mapO (frzD H 6) args).bind (vpure PP shF base dst 67 (closedL args) frz H) := vcall_pure sh67
@[go_sem] theorem ve67 {base nt : Nat} {dst : Option Nat} {args : List DV} {frz : Bool} {H : VHeap} : vcallE (F PP shF) shF base nt 67 args dst frz H = (mapO (frzD H 6) args).bind (vpure PP shF base dst 67 (closedL args) frz H) := vcallE_pure sh67
theorem PP68 : PP 68 = some ir68 := rfl
@[go_sem] theorem sh68 : shF 68 = false := rfl
@[go_sem] theorem vc68 {base nt : Nat} {dst : Option Nat} {args : List DV} {frz : Bool} {H : VHeap} : vcall (F PP shF) shF base nt dst 68 args frz H = (mapO (frzD H 6) args).bind (vpure PP shF base dst 68 (closedL args) frz H) := vcall_pure sh68
@[go_sem] theorem ve68 {base nt : Nat} {dst : Option Nat} {args : List DV} {frz : Bool} {H : VHeap} : vcallE (F PP shF) shF base nt 68 args dst frz H = (mapO (frzD H 6) args).bind (vpure PP shF base dst 68 (closedL args) frz H) := vcallE_pure sh68
theorem PP69 : PP 69 = some ir69 := rfl
@[go_sem] theorem sh69 : shF 69 = false := rfl
@[go_sem] theorem vc69 {base nt : Nat} {dst : Option Nat} {args : List DV} {frz : Bool} {H : VHeap} : vcall (F PP shF) shF base nt dst 69 args frz H = (mapO (frzD H 6) args).bind (vpure PP shF base dst 69 (closedL args) frz H) := vcall_pure sh69
@[go_sem] theorem ve69 {base nt : Nat} {dst : Option Nat} {args : List DV} {frz : Bool} {H : VHeap} : vcallE (F PP shF) shF base nt 69 args dst frz H = (mapO (frzD H 6) args).bind (vpure PP shF base dst 69 (closedL args) frz H) := vcallE_pure sh69
theorem PP70 : PP 70 = some ir70 := rfl
@[go_sem] theorem sh70 : shF 70 = false := rfl
@[go_sem] theorem vc70 {base nt : Nat} {dst : Option Nat} {args : List DV} {frz : Bool} {H : VHeap} : vcall (F PP shF) shF base nt dst 70 args frz H = (mapO (frzD H 6) args).bind (vpure PP shF base dst 70 (closedL args) frz H) := vcall_pure sh70
@[go_sem] theorem ve70 {base nt : Nat} {dst : Option Nat} {args : List DV} {frz : Bool} {H : VHeap} : vcallE (F PP shF) shF base nt 70 args dst frz H = (mapO (frzD H 6) args).bind (vpure PP shF base dst 70 (closedL args) frz H) := vcallE_pure sh70
theorem PP71 : PP 71 = some ir71 := rfl
@[go_sem] theorem sh71 : shF 71 = false := rfl
@[go_sem] theorem vc71 {base nt : Nat} {dst : Option Nat} {args : List DV} {frz : Bool} {H : VHeap} : vcall (F PP shF) shF base nt dst 71 args frz H = (mapO (frzD H 6) args).bind (vpure PP shF base dst 71 (closedL args) frz H) := vcall_pure sh71
@[go_sem] theorem ve71 {base nt : Nat} {dst : Option Nat} {args : List DV} {frz : Bool} {H : VHeap} : vcallE (F PP shF) shF base nt 71 args dst frz H = (mapO (frzD H 6) args).bind (vpure PP shF base dst 71 (closedL args) frz H) := vcallE_pure sh71
theorem PP72 : PP 72 = some ir72 := rfl
@[go_sem] theorem sh72 : shF 72 = false := rfl
@[go_sem] theorem vc72 {base nt : Nat} {dst : Option Nat} {args : List DV} {frz : Bool} {H : VHeap} : vcall (F PP shF) shF base nt dst 72 args frz H = (mapO (frzD H 6) args).bind (vpure PP shF base dst 72 (closedL args) frz H) := vcall_pure sh72
@[go_sem] theorem ve72 {base nt : Nat} {dst : Option Nat} {args : List DV} {frz : Bool} {H : VHeap} : vcallE (F PP shF) shF base nt 72 args dst frz H = (mapO (frzD H 6) args).bind (vpure PP shF base dst 72 (closedL args) frz H) := vcallE_pure sh72
theorem PP73 : PP 73 = some ir73 := rfl
@[go_sem] theorem sh73 : shF 73 = false := rfl
@[go_sem] theorem vc73 {base nt : Nat} {dst : Option Nat} {args : List DV} {frz : Bool} {H : VHeap} : vcall (F PP shF) shF base nt dst 73 args frz H = (mapO (frzD H 6) args).bind (vpure PP shF base dst 73 (closedL args) frz H) := vcall_pure sh73
@[go_sem] theorem ve73 {base nt : Nat} {dst : Option Nat} {args : List DV} {frz : Bool} {H : VHeap} : vcallE (F PP shF) shF base nt 73 args dst frz H = (mapO (frzD H 6) args).bind (vpure PP shF base dst 73 (closedL args) frz H) := vcallE_pure sh73
theorem PP79 : PP 79 = some ir79 := rfl
@[go_sem] theorem sh79 : shF 79 = false := rfl
@[go_sem] theorem vc79 {base nt : Nat} {dst : Option Nat} {args : List DV} {frz : Bool} {H : VHeap} : vcall (F PP shF) shF base nt dst 79 args frz H = (mapO (frzD H 6) args).bind (vpure PP shF base dst 79 (closedL args) frz H) := vcall_pure sh79
@[go_sem] theorem ve79 {base nt : Nat} {dst : Option Nat} {args : List DV} {frz : Bool} {H : VHeap} : vcallE (F PP shF) shF base nt 79 args dst frz H = (mapO (frzD H 6) args).bind (vpure PP shF base dst 79 (closedL args) frz H) := vcallE_pure sh79

end Go.Proofs.Cp
