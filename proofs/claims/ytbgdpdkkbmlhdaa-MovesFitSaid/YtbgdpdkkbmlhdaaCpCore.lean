/- The abstract machine: an intermediate code, an abstract heap, and a deterministic evaluator of both. No program in sight. -/
import Derived.Orders
import Derived.Tactics
import Derived.Below
import Derived.KernelRfl
namespace Go.Proofs.Cp
open Go

/-! ### The intermediate code -/
inductive Opd where
  | t (n : Nat)
  | c (v : Value)
  | f (n : Nat)
  deriving Inhabited

inductive IOp where
  | move (x : Opd)
  | pick (c a b : Opd)
  | box (x : Opd)
  | alloc (zs : List Value)
  | build (zs : List Value) (ps : List (Nat × Nat × Opd))
  | buildSlice (esz n : Nat) (zs : List Value) (ps : List (Nat × Nat × Opd))
  | load1 (a : Opd)
  | loadN (n : Nat) (a : Opd)
  | store (n : Nat) (a x : Opd)
  | nilCheck (x : Opd)
  | bin (op : BinOp) (x y : Opd)
  | eqn (kind : Nat) (neg : Bool) (x y : Opd)
  | eqs (neg : Bool) (n : Nat) (fs : List (Nat × Bool)) (x y : Opd)
  | un (op : UnOp) (x : Opd)
  | conv (k : IntKind) (x : Opd)
  | mkFunc (f : Nat) (caps : List Opd)
  | mkSlice (esz bytes : Nat) (zs : List Value) (l c : Opd)
  | slice (esz : Nat) (x : Opd) (lo hi : Option Opd)
  | fieldAddr (off : Nat) (x : Opd)
  | field1 (off : Nat) (x : Opd)
  | fieldN (off n : Nat) (x : Opd)
  | idxAddr (esz : Nat) (x i : Opd)
  | idxAddrA (len esz : Nat) (x i : Opd)
  | idx1 (len : Nat) (x i : Opd)
  | extract (x : Opd) (i : Nat)
  | call (f : Opd) (args : List Opd) (frz : Bool)
  | len (x : Opd)
  | minmax (mx : Bool) (x : Opd) (xs : List Opd)
  | append (esz bytes : Nat) (s x : Opd)
  | copy (esz : Nat) (d x : Opd)
  | clear (zs : List Value) (x : Opd)
  | idxS (x i : Opd)
  deriving Inhabited

structure IOper where
  dst : Option Nat
  op : IOp
  guard : Option (Nat × Bool)
  deriving Inhabited

inductive ICode where
  | skip
  | reg (draw : Bool) (ops : List IOper)
  | rgE (ops : List (IOper × Nat × Nat × Nat))
  | seq (a b : ICode)
  | cond (c : Opd) (a b : ICode)
  | block (id : Nat) (b : ICode)
  | loop (b : ICode)
  | exit (id : Nat)
  | ret
  deriving Inhabited

inductive IRes where
  | t (n : Nat)
  | c1 (n : Nat)
  | cN (k n : Nat)
  deriving Inhabited

structure IFun where
  ntmps : Nat
  res : List IRes
  body : ICode
  iso : Bool
  deriving Inhabited

/-! ### Environments -/
abbrev Env := List Value
def get : Env → Nat → Value
  | [], _ => undef
  | v :: _, 0 => v
  | _ :: e, n + 1 => get e n
def set : Env → Nat → Value → Env
  | [], 0, v => [v]
  | [], n + 1, v => undef :: set [] n v
  | _ :: e, 0, v => v :: e
  | x :: e, n + 1, v => x :: set e n v

theorem get_set_same (e : Env) (i : Nat) (v : Value) : get (set e i v) i = v := by
  induction i generalizing e with
  | zero => cases e <;> rfl
  | succ n ih => cases e with
    | nil => exact ih []
    | cons x e => exact ih e
theorem get_nil (j : Nat) : get [] j = undef := by cases j <;> rfl
theorem get_set_ne (e : Env) {i j : Nat} (v : Value) (h : i ≠ j) : get (set e i v) j = get e j := by
  induction i generalizing e j with
  | zero =>
    cases j with
    | zero => exact absurd rfl h
    | succ j => cases e with
      | nil => simp [set, get]
      | cons x e => rfl
  | succ n ih =>
    cases j with
    | zero => cases e <;> rfl
    | succ j =>
      have h' : n ≠ j := fun e => h (by omega)
      cases e with
      | nil => simp only [set, get]; rw [ih [] h', get_nil]
      | cons x e => simp only [set, get]; exact ih e h'

def ev (e : Env) : Opd → Value
  | .t n => get e n
  | .c v => v
  | .f n => .func (.func n) #[] #[]
def setO (e : Env) (d : Option Nat) (v : Value) : Env := match d with | none => e | some d => set e d v

/-! ### The abstract heap -/
inductive Blk where
  | cells (ro : Bool) (esz : Nat) (xs : List Value)
  | map (es : List (Value × Value))
  | dead
  deriving Inhabited
abbrev Heap := List Blk

def ld1 (h : Heap) (b o : Nat) : Option Value := match h[b]? with
  | some (.cells _ _ xs) => xs[o]?
  | _ => none
def ldN (h : Heap) (b o n : Nat) : Option (List Value) := match h[b]? with
  | some (.cells _ _ xs) => if o + n ≤ xs.length then some ((xs.drop o).take n) else none
  | _ => none
def one (v : Value) : Bool := match v with | .agg _ => false | .tuple _ => false | _ => true
def put (xs : List Value) (o : Nat) (vs : List Value) : List Value := xs.take o ++ vs ++ xs.drop (o + vs.length)
def stN (h : Heap) (b o : Nat) (vs : List Value) : Option Heap := match h[b]? with
  | some (.cells false e xs) => if o + vs.length ≤ xs.length ∧ vs.all one = true then some (h.set b (.cells false e (put xs o vs))) else none
  | _ => none

/-- Addresses below block n alone. -/
def lf (n : Nat) : Value → Bool
  | .bool _ => true
  | .int _ _ => true
  | .string _ => true
  | .pointer none => true
  | .pointer (some a) => decide (a.block < n)
  | .slice none l c => l == 0 && c == 0
  | .slice (some a) _ _ => decide (a.block < n)
  | .map none => true
  | .map (some a) => decide (a < n)
  | .nilFunc => true
  | _ => false
def lf2 (n : Nat) : Value → Bool
  | .agg cs => cs.toList.all (lf n)
  | v => lf n v
def noNew (n : Nat) : Value → Bool
  | .tuple cs => cs.toList.all (lf2 n)
  | v => lf2 n v
theorem lf_up {n : Nat} {v : Value} (h : lf 0 v = true) : lf n v = true := by
  unfold lf at h ⊢
  split at h <;> simp_all
theorem lf2_up {n : Nat} {v : Value} (h : lf2 0 v = true) : lf2 n v = true := by
  unfold lf2 at h ⊢
  split at h
  · simp only [List.all_eq_true] at h ⊢
    exact fun x hx => lf_up (h x hx)
  · exact lf_up h
theorem noNew_up {n : Nat} {v : Value} (h : noNew 0 v = true) : noNew n v = true := by
  unfold noNew at h ⊢
  split at h
  · simp only [List.all_eq_true] at h ⊢
    exact fun x hx => lf2_up (h x hx)
  · exact lf2_up h
def blkOk (n : Nat) : Option Blk → Bool
  | some (.cells _ _ xs) => xs.all (lf n)
  | some .dead => true
  | _ => false
def frzBlk : Blk → Blk
  | .cells _ e xs => .cells true e xs
  | b => b
def frzFrom (n : Nat) (h : Heap) : Heap := h.take n ++ (h.drop n).map frzBlk

/-! ### Values -/
def binI (op : BinOp) (k : IntKind) (a b : Int) : Option Value :=
  match op with
  | .add => some (.int k (k.wrap (a + b)))
  | .sub => some (.int k (k.wrap (a - b)))
  | .mul => some (.int k (k.wrap (a * b)))
  | .quo => if b = 0 then none else some (.int k (k.wrap (a.tdiv b)))
  | .rem => if b = 0 then none else some (.int k (a.tmod b))
  | .and => some (.int k (k.wrap ((BitVec.ofInt k.bits a &&& BitVec.ofInt k.bits b).toNat)))
  | .or => some (.int k (k.wrap ((BitVec.ofInt k.bits a ||| BitVec.ofInt k.bits b).toNat)))
  | .xor => some (.int k (k.wrap ((BitVec.ofInt k.bits a ^^^ BitVec.ofInt k.bits b).toNat)))
  | .andNot => some (.int k (k.wrap ((BitVec.ofInt k.bits a &&& ~~~ (BitVec.ofInt k.bits b)).toNat)))
  | .eql => some (.bool (a == b))
  | .neq => some (.bool (a != b))
  | .lss => some (.bool (a < b))
  | .leq => some (.bool (a ≤ b))
  | .gtr => some (.bool (a > b))
  | .geq => some (.bool (a ≥ b))
  | _ => none
def shI (op : BinOp) (k : IntKind) (a b : Int) : Option Value :=
  if b < 0 then none else
  match op with
  | .shl => some (.int k (k.wrap (a * 2 ^ (min b.toNat k.bits))))
  | .shr => some (.int k (a.fdiv (2 ^ (min b.toNat k.bits))))
  | _ => none
def bin (op : BinOp) (x y : Value) : Option Value :=
  match x, y with
  | .int k a, .int k' b => match op with
    | .shl => shI .shl k a b
    | .shr => shI .shr k a b
    | op => if k = k' then binI op k a b else none
  | _, _ => none
/-- '==' of bools (0), of a pointer (1) or a slice (2) and nil. -/
def eqN (kind : Nat) (x y : Value) : Option Bool :=
  match kind, x, y with
  | 0, .bool a, .bool b => some (a == b)
  | 1, .pointer p, .pointer none => some p.isNone
  | 2, .slice p _ _, .slice none _ _ => some p.isNone
  | _, _, _ => none
def leafEq : Bool → Value → Value → Option Bool
  | false, .int k a, .int k' b => if k = k' then some (a == b) else none
  | true, .bool a, .bool b => some (a == b)
  | _, _, _ => none
def eqsL (xs ys : List Value) : List (Nat × Bool) → Option Bool
  | [] => some true
  | o :: fs => match xs[o.1]?, ys[o.1]? with
    | some x, some y => match leafEq o.2 x y with
      | some true => eqsL xs ys fs
      | some false => some false
      | none => none
    | _, _ => none
def unV (op : UnOp) (x : Value) : Option Value :=
  match op, x with
  | .neg, .int k n => some (.int k (k.wrap (0 - n)))
  | .not, .bool b => some (.bool !b)
  | .xor, .int k n => some (.int k (k.wrap ((BitVec.ofInt k.bits (if k.signed then -1 else k.max) ^^^ BitVec.ofInt k.bits n).toNat)))
  | _, _ => none
def fill (cells : List Value) : List (Nat × Nat × Value) → Option (List Value)
  | [] => some cells
  | (off, size, v) :: rest => if v.cells.size = size ∧ off + size ≤ cells.length then fill (put cells off v.cells.toList) rest else none
def evPs (e : Env) (ps : List (Nat × Nat × Opd)) : List (Nat × Nat × Value) := ps.map fun p => (p.1, p.2.1, ev e p.2.2)
def zerosN (zs : List Value) (n : Nat) : List Value := match zs with
  | [z] => List.replicate n z
  | zs => (List.range (n * zs.length)).map fun i => zs.getD (i % zs.length) undef
def mm (mx : Bool) : Value → Value → Option Value
  | .int k x, .int _ y => some (.int k (if mx then (if y > x then y else x) else (if y < x then y else x)))
  | _, _ => none
def mmL (mx : Bool) (x : Value) : List Value → Option Value
  | [] => some x
  | y :: ys => (mm mx x y).bind fun v => mmL mx v ys

/-! ### Operations -/
/-- What an operation does to the heap: nothing, or a new heap and the blocks that were written. -/
abbrev Eff := Option (Heap × List Nat)
abbrev Calls_ := Nat → List Value → Heap → Option (Value × Eff)

def sliceV (esz : Nat) (hp : Heap) (b : Option Addr) (l c : Nat) (lo hi : Option Value) : Option Value :=
  let hi' : Option Nat := match hi with
    | none => some l
    | some (.int _ j) => if 0 ≤ j ∧ j ≤ c then some j.toNat else none
    | some _ => none
  hi'.bind fun h =>
  let lo' : Option Nat := match lo with
    | none => some 0
    | some (.int _ j) => if 0 ≤ j ∧ j ≤ h then some j.toNat else none
    | some _ => none
  lo'.bind fun l' =>
  match b with
  | none => some (.slice none (h - l') (c - l'))
  | some a => if l' = 0 then some (.slice (some ⟨a.block, a.off, none⟩) h c) else match hp[a.block]? with
    | some (.cells _ e _) => if e = esz then some (.slice (some ⟨a.block, a.off + l' * esz, none⟩) (h - l') (c - l')) else none
    | _ => none

def appendV (esz bytes : Nat) (h : Heap) (s x : Value) : Option (Value × Eff) :=
  match x with
  | .slice xa n _ =>
    let news : Option (List Value) := if n = 0 then some [] else match xa with
      | none => none
      | some a => ldN h a.block a.off (n * esz)
    news.bind fun news =>
    match s with
    | .slice none 0 0 =>
      if n = 0 then some (s, none)
      else if n * bytes ≤ 140737488355328 ∧ n ≤ 9223372036854775807 ∧ esz ≠ 0 then some (.slice (some ⟨h.length, 0, none⟩) n n, some (h ++ [.cells false esz news], []))
      else none
    | .slice (some a) l c =>
      if l + n ≤ c then
        if n = 0 then some (s, none)
        else (stN h a.block (a.off + l * esz) news).map fun h' => (.slice (some a) (l + n) c, some (h', [a.block]))
      else match h[a.block]? with
        | some (.cells false e xs) =>
          if e = esz ∧ esz ≠ 0 ∧ a.off + l * esz ≤ xs.length ∧ l ≤ c ∧ (l + n) * bytes ≤ 140737488355328 ∧ l + n ≤ 9223372036854775807 ∧ news.all one = true then
            some (.slice (some ⟨h.length, 0, none⟩) (l + n) (l + n),
              some ((h.set a.block .dead) ++ [.cells false esz ((xs.drop a.off).take (l * esz) ++ news)], [a.block]))
          else none
        | _ => none
    | _ => none
  | _ => none

def copyV (esz : Nat) (h : Heap) (d x : Value) : Option (Value × Eff) :=
  match d, x with
  | .slice da dl _, .slice xa xl _ =>
    if min xl dl = 0 then some (.int .i64 0, none)
    else match da, xa with
      | some a, some b => (ldN h b.block b.off (min xl dl * esz)).bind fun vs => (stN h a.block a.off vs).map fun h' => (.int .i64 (min xl dl : Nat), some (h', [a.block]))
      | _, _ => none
  | _, _ => none
def clearV (zs : List Value) (h : Heap) (x : Value) : Option (Value × Eff) :=
  match x with
  | .slice a n _ =>
    if n = 0 then some (.tuple #[], none)
    else match a with
      | some a => (stN h a.block a.off (zerosN zs n)).map fun h' => (.tuple #[], some (h', [a.block]))
      | none => none
  | _ => none

def iop (call : Calls_) (op : IOp) (e : Env) (h : Heap) : Option (Value × Eff) :=
  match op with
  | .move x => some (ev e x, none)
  | .pick c a b => match ev e c with
    | .bool t => some (if t then ev e a else ev e b, none)
    | _ => none
  | .box x => some (.pointer (some ⟨h.length, 0, none⟩), some (h ++ [.cells false 0 (ev e x).cells.toList], []))
  | .alloc zs => some (.pointer (some ⟨h.length, 0, none⟩), some (h ++ [.cells false 0 zs], []))
  | .build zs ps => (fill zs (evPs e ps)).map fun cs => (.agg cs.toArray, none)
  | .buildSlice esz n zs ps => (fill zs (evPs e ps)).map fun cs => (.slice (some ⟨h.length, 0, none⟩) n n, some (h ++ [.cells false esz cs], []))
  | .load1 a => match ev e a with
    | .pointer (some a) => (ld1 h a.block a.off).map fun v => (v, none)
    | _ => none
  | .loadN n a => match ev e a with
    | .pointer (some a) => (ldN h a.block a.off n).map fun vs => (.agg vs.toArray, none)
    | _ => none
  | .store n a x => match ev e a with
    | .pointer (some a) => if (ev e x).cells.size = n then (stN h a.block a.off (ev e x).cells.toList).map fun h' => (undef, some (h', [a.block])) else none
    | _ => none
  | .nilCheck x => match ev e x with
    | .pointer (some a) => some (.pointer (some a), none)
    | _ => none
  | .bin op x y => (bin op (ev e x) (ev e y)).map fun v => (v, none)
  | .eqn kind neg x y => (eqN kind (ev e x) (ev e y)).map fun b => (.bool (if neg then !b else b), none)
  | .eqs neg n fs x y => match ev e x, ev e y with
    | .agg xs, .agg ys => if xs.toList.length = n ∧ ys.toList.length = n then (eqsL xs.toList ys.toList fs).map fun b => (.bool (if neg then !b else b), none) else none
    | _, _ => none
  | .un op x => (unV op (ev e x)).map fun v => (v, none)
  | .conv k x => match ev e x with
    | .int _ n => some (.int k (k.wrap n), none)
    | _ => none
  | .mkFunc f caps => some (.func (.func f) #[] (caps.map (ev e)).toArray, none)
  | .mkSlice esz bytes zs l c => match ev e l, ev e c with
    | .int _ n, .int _ m => if 0 ≤ n ∧ n ≤ m ∧ bytes * m ≤ 281474976710656 ∧ m ≤ 9223372036854775807 then
        some (.slice (some ⟨h.length, 0, none⟩) n.toNat m.toNat, some (h ++ [.cells false esz (zerosN zs m.toNat)], []))
      else none
    | _, _ => none
  | .slice esz x lo hi => match ev e x with
    | .slice b l c => (sliceV esz h b l c (lo.map (ev e)) (hi.map (ev e))).map fun v => (v, none)
    | _ => none
  | .fieldAddr off x => match ev e x with
    | .pointer (some a) => some (.pointer (some ⟨a.block, a.off + off, none⟩), none)
    | _ => none
  | .field1 off x => match ev e x with
    | .agg cs => (cs.toList[off]?).map fun v => (v, none)
    | _ => none
  | .fieldN off n x => match ev e x with
    | .agg cs => if off + n ≤ cs.toList.length then some (.agg ((cs.toList.drop off).take n).toArray, none) else none
    | _ => none
  | .idxAddr esz x i => match ev e x, ev e i with
    | .slice (some a) l _, .int _ j => if 0 ≤ j ∧ j < l then some (.pointer (some ⟨a.block, a.off + j.toNat * esz, none⟩), none) else none
    | _, _ => none
  | .idxAddrA len esz x i => match ev e x, ev e i with
    | .pointer (some a), .int _ j => if 0 ≤ j ∧ j < len then some (.pointer (some ⟨a.block, a.off + j.toNat * esz, none⟩), none) else none
    | _, _ => none
  | .idx1 len x i => match ev e x, ev e i with
    | .agg cs, .int _ j => if 0 ≤ j ∧ j < len then (cs.toList[j.toNat]?).map fun v => (v, none) else none
    | _, _ => none
  | .extract x i => match ev e x with
    | .tuple vs => (vs.toList[i]?).map fun v => (v, none)
    | _ => none
  | .call f args frz => match ev e f with
    | .func (.func g) first caps => (call g (first.toList ++ args.map (ev e) ++ caps.toList) h).map fun r =>
        (r.1, match r.2 with
          | none => none
          | some (h', w) => some (if frz then frzFrom h.length h' else h', w))
    | _ => none
  | .len x => match ev e x with
    | .slice _ n _ => some (.int .i64 n, none)
    | _ => none
  | .minmax mx x xs => (mmL mx (ev e x) (xs.map (ev e))).map fun v => (v, none)
  | .append esz bytes s x => appendV esz bytes h (ev e s) (ev e x)
  | .copy esz d x => copyV esz h (ev e d) (ev e x)
  | .clear zs x => clearV zs h (ev e x)
  | .idxS x i => match ev e x, ev e i with
    | .string s, .int _ j => if 0 ≤ j then (s[j.toNat]?).map fun b => (.int .u8 b.toNat, none) else none
    | _, _ => none

/-! ### Code -/
structure St where
  env : Env
  heap : Heap
  wrs : List Nat
  deriving Inhabited
inductive Ex where
  | normal
  | exit (id : Nat)
  | ret
  deriving DecidableEq, Inhabited

def addW (w ws : List Nat) : List Nat := w.foldr (fun b ws => if b ∈ ws then ws else b :: ws) ws
def St.eff (s : St) (d : Option Nat) (v : Value) (ef : Eff) : St := match ef with
  | none => { s with env := setO s.env d v }
  | some (h, w) => ⟨setO s.env d v, h, addW w s.wrs⟩

def wants (e : Env) : Option (Nat × Bool) → Bool
  | none => true
  | some (t, b) => match get e t with
    | .bool c => c == b
    | _ => false

def runOp (call : Calls_) (o : IOper) (s : St) : Option St :=
  if wants s.env o.guard then (iop call o.op s.env s.heap).map fun r => s.eff o.dst r.1 r.2
  else some { s with env := setO s.env o.dst undef }
def runOps (call : Calls_) : List IOper → St → Option St
  | [], s => some s
  | o :: os, s => (runOp call o s).bind fun s' => runOps call os s'
def runOpD (call : Calls_) (o : IOper) (e : Env) (h : Heap) : Option Env :=
  if wants e o.guard then match iop call o.op e h with
    | some (v, none) => some (setO e o.dst v)
    | _ => none
  else some (setO e o.dst undef)
def runOpsD (call : Calls_) : List IOper → Env → Heap → Option Env
  | [], e, _ => some e
  | o :: os, e, h => (runOpD call o e h).bind fun e' => runOpsD call os e' h

/-! A region that draws its order, with effects: each operation with its kind (0: asks no heap; 1: reads a block; 2: may have effects) and its range: how many of those with effects may have been before it. -/
def pureOp : IOp → Bool
  | .move _ => true
  | .pick _ _ _ => true
  | .build _ _ => true
  | .nilCheck _ => true
  | .bin _ _ _ => true
  | .eqn _ _ _ _ => true
  | .eqs _ _ _ _ _ => true
  | .un _ _ => true
  | .conv _ _ => true
  | .mkFunc _ _ => true
  | .fieldAddr _ _ => true
  | .field1 _ _ => true
  | .fieldN _ _ _ => true
  | .idxAddr _ _ _ => true
  | .idxAddrA _ _ _ _ => true
  | .idx1 _ _ _ => true
  | .extract _ _ => true
  | .len _ => true
  | .minmax _ _ _ => true
  | .idxS _ _ => true
  | _ => false
/-- The block that is read. -/
def loadBlk (e : Env) : IOp → Option Nat
  | .load1 a => match ev e a with
    | .pointer (some a) => some a.block
    | _ => none
  | .loadN _ a => match ev e a with
    | .pointer (some a) => some a.block
    | _ => none
  | .slice _ x _ _ => match ev e x with
    | .slice (some a) l c => if l = 0 ∧ c = 0 then none else some a.block
    | _ => none
  | _ => none
def loadOp : IOp → Bool
  | .load1 _ => true
  | .loadN _ _ => true
  | .slice _ _ _ _ => true
  | _ => false
/-- A variable that is made at any time (3): its number is taken at the region's begin. -/
def zsE (x : IOper × Nat × Nat × Nat) : Option (List Value) := if x.2.1 = 3 then (match x.1.op, x.1.guard with
  | .alloc zs, none => some zs
  | _, _ => none) else none
def preE (l : List (IOper × Nat × Nat × Nat)) : List (List Value) := l.filterMap zsE
structure ESt where
  st : St
  n0 : Nat
  hist : List (Nat × List Nat)
  ld : List (Nat × Nat × Nat)
def effW : Eff → List Nat
  | none => []
  | some (_, w) => w
def runOpE (call : Calls_) (o : IOper × Nat × Nat × Nat) (s : ESt) : Option ESt :=
  match zsE o with
  | some _ => some ⟨{ s.st with env := setO s.st.env o.1.dst (.pointer (some ⟨s.n0 + o.2.2.1, 0, none⟩)) }, s.n0, s.hist, (s.n0 + o.2.2.1, 0, o.2.2.2) :: s.ld⟩
  | none =>
  if wants s.st.env o.1.guard then (iop call o.1.op s.st.env s.st.heap).bind fun r =>
    match o.2.1 with
    | 0 => if pureOp o.1.op then some { s with st := s.st.eff o.1.dst r.1 r.2 } else none
    | 1 => if loadOp o.1.op then match loadBlk s.st.env o.1.op with
        | some b => some ⟨s.st.eff o.1.dst r.1 r.2, s.n0, s.hist, (b, o.2.2.1, o.2.2.2) :: s.ld⟩
        | none => some { s with st := s.st.eff o.1.dst r.1 r.2 }
      else none
    | _ => some ⟨s.st.eff o.1.dst r.1 r.2, s.n0, s.hist ++ [(s.st.heap.length, effW r.2)], s.ld⟩
  else some ⟨{ s.st with env := setO s.st.env o.1.dst undef }, s.n0, if o.2.1 = 2 then s.hist ++ [(s.st.heap.length, [])] else s.hist, s.ld⟩
def runOpsE (call : Calls_) : List (IOper × Nat × Nat × Nat) → ESt → Option ESt
  | [], s => some s
  | o :: os, s => (runOpE call o s).bind fun s' => runOpsE call os s'
def ldOk (hist : List (Nat × List Nat)) (x : Nat × Nat × Nat) : Bool :=
  (List.range x.2.2).all fun j => decide (j < x.2.1) || match hist[j]? with
    | some (_, w) => !w.contains x.1
    | none => true

def iter (body : St → Option (Ex × St)) : Nat → St → Option (Ex × St)
  | 0, _ => none
  | n + 1, s => (body s).bind fun r => match r.1 with
    | .normal => iter body n r.2
    | x => some (x, r.2)

def run (call : Calls_) (k : Nat) : ICode → St → Option (Ex × St)
  | .skip, s => some (.normal, s)
  | .reg false ops, s => (runOps call ops s).map fun s' => (.normal, s')
  | .reg true ops, s => (runOpsD call ops s.env s.heap).map fun e' => (.normal, { s with env := e' })
  | .rgE ops, s => (runOpsE call ops ⟨{ s with heap := s.heap ++ (preE ops).map (fun zs => .cells false 0 zs) }, s.heap.length, [], []⟩).bind fun r => if r.ld.all (ldOk r.hist) then some (.normal, r.st) else none
  | .seq a b, s => (run call k a s).bind fun r => match r.1 with
    | .normal => run call k b r.2
    | x => some (x, r.2)
  | .cond c a b, s => match ev s.env c with
    | .bool true => run call k a s
    | .bool false => run call k b s
    | _ => none
  | .block id c, s => (run call k c s).map fun r => match r.1 with
    | .exit i => (if i = id then .normal else .exit i, r.2)
    | x => (x, r.2)
  | .loop c, s => iter (run call k c) k s
  | .exit id, s => some (.exit id, s)
  | .ret, s => some (.ret, s)

def resOf (e : Env) (h : Heap) : IRes → Option Value
  | .t n => some (get e n)
  | .c1 n => match get e n with
    | .pointer (some a) => ld1 h a.block a.off
    | _ => none
  | .cN k n => match get e n with
    | .pointer (some a) => (ldN h a.block a.off k).map fun vs => .agg vs.toArray
    | _ => none
def resL (e : Env) (h : Heap) : List IRes → Option (List Value)
  | [] => some []
  | r :: rs => (resOf e h r).bind fun v => (resL e h rs).map fun vs => v :: vs
def tup : List Value → Value
  | [v] => v
  | vs => .tuple vs.toArray

def runFun (call : Calls_) (k : Nat) (fn : IFun) (args : List Value) (h : Heap) : Option (Value × Heap × List Nat) :=
  if args.length ≤ fn.ntmps then
    (run call k fn.body ⟨args, h, []⟩).bind fun r => match r.1 with
      | .exit _ => none
      | _ => (resL r.2.env r.2.heap fn.res).map fun vs => (tup vs, r.2.heap, r.2.wrs)
  else none

/-- What is left of a call: what it made is forgotten where nothing leads to it. -/
def gc (h : Heap) (r : Value × Heap × List Nat) : Value × Eff :=
  let w := r.2.2.filter fun b => decide (b < h.length)
  if noNew 0 r.1 && w.all (fun b => blkOk h.length r.2.1[b]?) then
    if w = [] then (r.1, none) else (r.1, some (w.foldl (fun g b => g.set b (r.2.1.getD b .dead)) h, w))
  else (r.1, some (r.2.1, w))

abbrev Prog := Nat → Option IFun
def stepF (P : Prog) (k : Nat) (call : Calls_) : Calls_ := fun f args h =>
  match P f with
  | none => none
  | some fn =>
    if fn.iso then (runFun call k fn args h).map fun r => (r.1, some (r.2.1, r.2.2.filter fun b => decide (b < h.length)))
    else (runFun call k fn args h).map (gc h)
/-- The machine: k bounds calls and rounds. -/
def mach (P : Prog) (X : Calls_) : Nat → Calls_
  | 0 => fun _ _ _ => none
  | k + 1 => fun f args h => match P f with
    | none => X f args h
    | some _ => stepF P k (mach P X k) f args h
end Go.Proofs.Cp
