/- From the program's form to the intermediate code. -/
import Derived.Test.YtbgdpdkkbmlhdaaCpCore
namespace Go.Proofs.Cp
open Go

structure Ctx where
  P : Program
  T : Nat → FuncId
  inv : FuncId → Option Nat
  frz : Nat → Bool
  glob : Nat → Option (List Value)

variable (G : Ctx)
def cOpd (ok : Nat → Bool) : Operand → Option Opd
  | .tmp t => if ok t then some (.t t) else none
  | .const v => if lf2 0 v then some (.c v) else none
  | .global _ => none
  | .func f => match G.inv f with
    | some c => if G.T c = f then some (.f c) else none
    | none => none
def cOpds (ok : Nat → Bool) : List Operand → Option (List Opd)
  | [] => some []
  | x :: xs => (cOpd G ok x).bind fun y => (cOpds ok xs).map fun ys => y :: ys
def cOpdO (ok : Nat → Bool) : Option Operand → Option (Option Opd)
  | none => some none
  | some x => (cOpd G ok x).map some
def isAggT (t : TypeId) : Option Bool := match G.P.underlying t with
  | some (.struct _) => some true
  | some (.array _ _) => some true
  | some _ => some false
  | none => none
def zeroOf (t : TypeId) : Option (List Value) := match G.P.info? t with
  | some i => match i.zero with
    | some z => if z.cells.toList.all (lf 0) && z.cells.size == i.size then some z.cells.toList else none
    | none => none
  | none => none
def zerosOf (zs : List Value) (n : Nat) : List Value := (List.range (n * zs.length)).map fun i => zs.getD (i % zs.length) undef
/-- The places of a struct's or an array's parts. -/
def placeOf (t : TypeId) (i : Nat) : Option (Nat × Nat) := match G.P.underlying t with
  | some (.struct fs) => match fs[i]? with
    | some f => match G.P.info? f.type with
      | some j => some (f.offset, j.size)
      | none => none
    | none => none
  | some (.array _ e) => match G.P.info? e with
    | some j => some (i * j.size, j.size)
    | none => none
  | _ => none
def fieldsKnown (t : TypeId) : Bool := match G.P.underlying t with
  | some (.struct fs) => fs.toList.all fun f => (G.P.info? f.type).isSome
  | some (.array _ e) => (G.P.info? e).isSome
  | _ => false
def cParts (ok : Nat → Bool) (place : Nat → Option (Nat × Nat)) : List (Nat × Operand) → Option (List (Nat × Nat × Opd))
  | [] => some []
  | (i, x) :: ps => (place i).bind fun pl => (cOpd G ok x).bind fun y => (cParts ok place ps).map fun ys => (pl.1, pl.2, y) :: ys
/-- The leaves of a struct of whole numbers and bools. -/
def eqLFields (f : TypeId → Nat → Option (List (Nat × Bool))) (size off : Nat) : List Field → Option (List (Nat × Bool))
  | [] => some []
  | g :: gs => if g.name = "_" then none else match G.P.info? g.type with
    | some j => if g.offset + j.size ≤ size then (f g.type (off + g.offset)).bind fun m => (eqLFields f size off gs).map fun l => m ++ l else none
    | none => none
def eqLeaves : Nat → TypeId → Nat → Option (List (Nat × Bool))
  | 0, _, _ => none
  | d + 1, t, off => match G.P.underlying t, G.P.info? t with
    | some (.int _), some i => if i.size = 1 then some [(off, false)] else none
    | some .bool, some i => if i.size = 1 then some [(off, true)] else none
    | some (.struct fs), some i => if G.P.stoodInHeld t then none else eqLFields G (eqLeaves d) i.size off fs.toList
    | _, _ => none
def cGlob (t : TypeId) (g : Nat) : Option IOp := match isAggT G t, G.P.info? t, G.glob g with
  | some true, some i, some vs => if vs.length = i.size && vs.all (lf 0) then some (.move (.c (.agg vs.toArray))) else none
  | some false, some _, some [v] => if lf 0 v then some (.move (.c v)) else none
  | _, _, _ => none
def cBuiltin (ok : Nat → Bool) (b : Builtin) (as : List Operand) (ts : List TypeId) : Option IOp := match b with
  | .len => match as, ts with
    | [x], [t] => (cOpd G ok x).bind fun x => match G.P.underlying t with
      | some (.slice _) => some (.len x)
      | _ => none
    | _, _ => none
  | .min => (cOpds G ok as).bind fun as => match as with
    | x :: xs => some (.minmax false x xs)
    | [] => none
  | .max => (cOpds G ok as).bind fun as => match as with
    | x :: xs => some (.minmax true x xs)
    | [] => none
  | .append => match as, ts with
    | [s, x], [t, u] => (cOpd G ok s).bind fun s => (cOpd G ok x).bind fun x => match G.P.underlying t, G.P.underlying u with
      | some (.slice e), some (.slice _) => match G.P.info? e with
        | some i => match i.zero with
          | some z => if z.cells.size = i.size ∧ t = u then some (.append i.size i.bytes s x) else none
          | none => none
        | none => none
      | _, _ => none
    | _, _ => none
  | .copy => match as, ts with
    | [d, x], [t, u] => (cOpd G ok d).bind fun d => (cOpd G ok x).bind fun x => match G.P.underlying t, G.P.underlying u with
      | some (.slice e), some (.slice _) => match G.P.info? e with
        | some i => some (.copy i.size d x)
        | none => none
      | _, _ => none
    | _, _ => none
  | .clear => match as, ts with
    | [x], [t] => (cOpd G ok x).bind fun x => match G.P.underlying t with
      | some (.slice e) => (zeroOf G e).bind fun zs => match zs with | [] => none | z :: zs => some (.clear (z :: zs) x)
      | _ => none
    | _, _ => none
  | _ => none
def cOp (ok : Nat → Bool) : Op → Option IOp
  | .move x => (cOpd G ok x).map .move
  | .assign x => (cOpd G ok x).map .move
  | .pick c a b => (cOpd G ok c).bind fun c => (cOpd G ok a).bind fun a => (cOpd G ok b).map fun b => .pick c a b
  | .alloc t => (zeroOf G t).map .alloc
  | .box _ x => (cOpd G ok x).map .box
  | .build t ps => if fieldsKnown G t then (zeroOf G t).bind fun zs => (cParts G ok (placeOf G t) ps.toList).map fun ps => .build zs ps else none
  | .buildSlice t n ps => match G.P.underlying t with
    | some (.slice e) => match G.P.info? e with
      | some i => (zeroOf G e).bind fun zs => if n * i.size ≤ 16777216 then (cParts G ok (fun j => some (j * i.size, i.size)) ps.toList).map fun ps => .buildSlice i.size n (zerosOf zs n) ps else none
      | none => none
    | _ => none
  | .load t a => match a with
    | .global g => cGlob G t g
    | a => (cOpd G ok a).bind fun a => match isAggT G t, G.P.info? t with
      | some true, some i => some (.loadN i.size a)
      | some false, some _ => some (.load1 a)
      | _, _ => none
  | .store t a x => (cOpd G ok a).bind fun a => (cOpd G ok x).bind fun x => match G.P.info? t with
    | some i => some (.store i.size a x)
    | none => none
  | .nilCheck x => (cOpd G ok x).map .nilCheck
  | .binOp op t x y _ => (cOpd G ok x).bind fun x => (cOpd G ok y).bind fun y => match G.P.underlying t with
    | some (.int _) => some (.bin op x y)
    | some .bool => match op with
      | .eql => some (.eqn 0 false x y)
      | .neq => some (.eqn 0 true x y)
      | _ => none
    | some (.pointer _) => match op with
      | .eql => some (.eqn 1 false x y)
      | .neq => some (.eqn 1 true x y)
      | _ => none
    | some (.slice _) => match op with
      | .eql => some (.eqn 2 false x y)
      | .neq => some (.eqn 2 true x y)
      | _ => none
    | some (.struct _) => if G.P.eqGuardType G.P.depth t then none else match op with
      | .eql => match eqLeaves G 9 t 0, G.P.info? t with
        | some fs, some i => some (.eqs false i.size fs x y)
        | _, _ => none
      | .neq => match eqLeaves G 9 t 0, G.P.info? t with
        | some fs, some i => some (.eqs true i.size fs x y)
        | _, _ => none
      | _ => none
    | _ => none
  | .unOp op _ x => (cOpd G ok x).map fun x => .un op x
  | .convert s d x => (cOpd G ok x).bind fun x => match G.P.underlying s, G.P.underlying d with
    | some _, some (.int k) => some (.conv k x)
    | _, _ => none
  | .makeFunc fn first cs => (cOpds G ok cs.toList).bind fun cs => match fn, first.toList with
    | .func f, [] => match G.inv f with
      | some c => if G.T c = f then some (.mkFunc c cs) else none
      | none => none
    | _, _ => none
  | .makeSlice t l c => (cOpd G ok l).bind fun l => (cOpd G ok c).bind fun c => match G.P.underlying t with
    | some (.slice e) => match G.P.info? e with
      | some i => (zeroOf G e).bind fun zs => match zs with | [] => none | z :: zs => some (.mkSlice i.size i.bytes (z :: zs) l c)
      | none => none
    | _ => none
  | .slice t x lo hi mx => if mx.isSome then none else (cOpd G ok x).bind fun x => (cOpdO G ok lo).bind fun lo => (cOpdO G ok hi).bind fun hi => match G.P.underlying t with
    | some (.slice e) => match G.P.info? e with
      | some i => some (.slice i.size x lo hi)
      | none => none
    | _ => none
  | .fieldAddr t x i => (cOpd G ok x).bind fun x => match G.P.underlying t with
    | some (.struct fs) => match fs[i]? with
      | some f => match G.P.info? f.type with
        | some j => if j.size = 0 then none else some (.fieldAddr f.offset x)
        | none => none
      | none => none
    | _ => none
  | .field t x i => (cOpd G ok x).bind fun x => match G.P.underlying t with
    | some (.struct fs) => match fs[i]? with
      | some f => match isAggT G f.type, G.P.info? f.type with
        | some true, some j => some (.fieldN f.offset j.size x)
        | some false, some _ => some (.field1 f.offset x)
        | _, _ => none
      | none => none
    | _ => none
  | .indexAddr t x i => (cOpd G ok x).bind fun x => (cOpd G ok i).bind fun i => match G.P.underlying t with
    | some (.slice e) => match G.P.info? e with
      | some j => some (.idxAddr j.size x i)
      | none => none
    | some (.array n e) => match G.P.info? e with
      | some j => some (.idxAddrA n j.size x i)
      | none => none
    | _ => none
  | .index t x i => (cOpd G ok x).bind fun x => (cOpd G ok i).bind fun i => match G.P.underlying t with
    | some (.array n e) => match isAggT G e, G.P.info? e with
      | some false, some j => if j.size = 1 then some (.idx1 n x i) else none
      | _, _ => none
    | some .string => some (.idxS x i)
    | _ => none
  | .extract x i => (cOpd G ok x).map fun x => .extract x i
  | .call c => match c.callee with
    | .value f => (cOpd G ok f).bind fun f => (cOpds G ok c.args.toList).map fun as => .call f as (match f with | .f c => G.frz c | _ => false)
    | .builtin b => cBuiltin G ok b c.args.toList c.argTypes.toList
    | .invoke _ _ => none
  | _ => none

def dstOk (nt : Nat) (o : Oper) : Bool := match o.dst with | some d => decide (d < nt) | none => true
def cOper (nt : Nat) (ok : Nat → Bool) (ops : Array Oper) (o : Oper) : Option IOper :=
  if dstOk nt o then
    (cOp G ok o.op).bind fun op => match o.guard with
      | none => some ⟨o.dst, op, none⟩
      | some (g, b) => match (ops[g]?).bind (·.dst) with
        | some t => if decide (t < nt) && ok t then some ⟨o.dst, op, some (t, b)⟩ else none
        | none => none
  else none
def inT (nt : Nat) (t : Nat) : Bool := decide (t < nt)
def cOpers (nt : Nat) (ops : Array Oper) : List Oper → Option (List IOper)
  | [] => some []
  | o :: os => (cOper G nt (inT nt) ops o).bind fun o => (cOpers nt ops os).map fun os => o :: os

/-! What a region that draws its order must obey: each result has a place of its own, and what an operation looks at is none of the region's results, or that of an operation that it waits for, or of one that waits for it. -/
def looksAt (ops : Array Oper) (o : Oper) : List Tmp := (o.op.operands.toList.filterMap fun | .tmp t => some t | _ => none) ++ (match o.guard with | none => [] | some (g, _) => (match ops[g]? with | some p => p.dst.toList | none => []))
def okAt (nt : Nat) (ops : Array Oper) (o : Oper) (t : Nat) : Bool := decide (t < nt) && (looksAt ops o).contains t
def cOpersD (nt : Nat) (ops : Array Oper) : List Oper → Option (List IOper)
  | [] => some []
  | o :: os => (cOper G nt (okAt nt ops o) ops o).bind fun o => (cOpersD nt ops os).map fun os => o :: os
def waits (o : Oper) (j : Nat) : Bool := o.after.toList.any fun e => Region.binds .any e && e.on == j
def drawOk (ops : Array Oper) : Bool :=
  (List.range ops.size).all fun i => match ops[i]? with
    | none => false
    | some o =>
      (o.after.toList.all fun e => !Region.binds .any e || decide (e.on < i)) &&
      (List.range ops.size).all fun j => match ops[j]? with
        | none => true
        | some p => match p.dst with
          | none => true
          | some d => (i == j || o.dst != some d) && (!(looksAt ops o).contains d || (decide (j < i) && waits o j) || (decide (i < j) && waits p i))

/-- Operation i must come before operation j. -/
def anc (ops : Array Oper) : Nat → Nat → Nat → Bool
  | 0, _, _ => false
  | f + 1, i, j => match ops[j]? with
    | none => false
    | some o => o.after.toList.any fun e => Region.binds .any e && (e.on == i || anc ops f i e.on)
/-- The same, for all operations at once, as bits. -/
def ancRow (T : List Nat) (o : Oper) : Nat := o.after.toList.foldl (fun m e => if Region.binds .any e then m ||| ((1 <<< e.on) ||| T.getD e.on 0) else m) 0
def ancT : List Oper → List Nat → List Nat
  | [], T => T
  | o :: os, T => ancT os (T ++ [ancRow T o])
def ancB (T : List Nat) (i j : Nat) : Bool := (T.getD j 0).testBit i
abbrev IO4 := IOper × Nat × Nat × Nat
def rkE (l : List IO4) (j : Nat) : Nat := ((l.take j).filter fun x => x.2.1 == 2).length
def okE (T : List Nat) (l : List IO4) : Bool :=
  ((List.range l.length).all fun i => match l[i]? with
    | none => true
    | some x => decide (x.2.1 ≤ 2) || ((zsE x).isSome && x.2.2.1 == (preE (l.take i)).length)) &&
  (List.range l.length).all fun i => match l[i]? with
    | none => true
    | some x => (List.range l.length).all fun j => match l[j]? with
      | none => true
      | some y => y.2.1 != 2 || (match x.2.1 with
        | 0 => true
        | 3 => decide (rkE l j < x.2.2.2) || ancB T i j
        | 1 => (decide (x.2.2.1 ≤ rkE l j) || ancB T j i) && (decide (rkE l j < x.2.2.2) || ancB T i j)
        | _ => decide (i ≤ j) || ancB T j i)
def kindE (o : IOper) : Nat := if (match o.op, o.guard with | .alloc _, none => true | _, _ => false) then 3 else if pureOp o.op then 0 else if loadOp o.op then 1 else 2
def mkE (T : List Nat) (os : List IOper) : List IO4 :=
  let k : List IO4 := os.map fun o => (o, kindE o, 0, 0)
  let ef := (List.range os.length).filter fun j => match k[j]? with | some y => y.2.1 == 2 | none => false
  (List.range os.length).zip os |>.map fun x =>
    (x.2, kindE x.2, if kindE x.2 = 3 then (preE (k.take x.1)).length else (ef.filter fun j => ancB T j x.1).length, ef.length - (ef.filter fun j => ancB T x.1 j).length)
def hasEff (o : IOper) : Bool := match o.op with
  | .box _ => true
  | .alloc _ => true
  | .buildSlice _ _ _ _ => true
  | .mkSlice _ _ _ _ _ => true
  | .store _ _ _ => true
  | .append _ _ _ _ => true
  | .copy _ _ _ => true
  | .clear _ _ => true
  | .call _ _ _ => true
  | _ => false
def cCode (nt : Nat) : Code → Option ICode
  | .skip => some .skip
  | .region _ ops false => (cOpers G nt ops ops.toList).map fun os => .reg false os
  | .region _ ops true => if drawOk ops then (cOpersD G nt ops ops.toList).bind fun os =>
      if os.any hasEff && okE (ancT ops.toList []) (mkE (ancT ops.toList []) os) then some (.rgE (mkE (ancT ops.toList []) os)) else some (.reg true os)
    else none
  | .seq a b => (cCode nt a).bind fun a => (cCode nt b).map fun b => .seq a b
  | .cond c a b => (cOpd G (inT nt) c).bind fun c => (cCode nt a).bind fun a => (cCode nt b).map fun b => .cond c a b
  | .block id b => (cCode nt b).map fun b => .block id b
  | .loop b => (cCode nt b).map fun b => .loop b
  | .exit id => some (.exit id)
  | .ret => some .ret
  | _ => none
def cRes (nt : Nat) : ResultVar → Option IRes
  | .tmp t => if t < nt then some (.t t) else none
  | .cell a t => if a < nt then match isAggT G t, G.P.info? t with
    | some true, some i => some (.cN i.size a)
    | some false, some _ => some (.c1 a)
    | _, _ => none
    else none
def cRess (nt : Nat) : List ResultVar → Option (List IRes)
  | [] => some []
  | x :: xs => (cRes G nt x).bind fun y => (cRess nt xs).map fun ys => y :: ys
def cFun (iso : Bool) (F : Func) : Option IFun :=
  if F.name == "runtime.NumGoroutine" then none else
  match F.body with
  | none => none
  | some b => (cRess G F.ntmps F.results.toList).bind fun rs => (cCode G F.ntmps b).map fun b => ⟨F.ntmps, rs, b, iso⟩
end Go.Proofs.Cp
