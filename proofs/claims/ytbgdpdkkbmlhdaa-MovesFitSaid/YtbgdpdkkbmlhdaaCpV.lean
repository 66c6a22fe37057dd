/- The second machine: slices that nobody writes are plain lists of lists. No program in sight. -/
import Derived.Test.YtbgdpdkkbmlhdaaCpFrame
set_option linter.unusedSimpArgs false
set_option linter.unusedVariables false
namespace Go.Proofs.Cp
open Go

inductive DV where
  | bad
  | lit (v : Value)
  | agg (l : List DV)
  | tup (l : List DV)
  | sl (L : List (List DV))
  | rp (l : List DV)
  | fn (f : Nat) (caps : List DV)
  | mp (b ver i k : Nat)
  | ms (b ver i l c : Nat)
  deriving Inhabited

/-- A block that is written: its version, the size of an element, whether it lives, its elements. -/
structure VB where
  ver : Nat
  e : Nat
  live : Bool
  L : List (List DV)
  deriving Inhabited

/-! ### Lists with a default -/
section
variable {α : Type}
def gt (d : α) : List α → Nat → α
  | [], _ => d
  | v :: _, 0 => v
  | _ :: e, n + 1 => gt d e n
def st (d : α) : List α → Nat → α → List α
  | [], 0, v => [v]
  | [], n + 1, v => d :: st d [] n v
  | _ :: e, 0, v => v :: e
  | x :: e, n + 1, v => x :: st d e n v
theorem gt_nil (d : α) (j : Nat) : gt d [] j = d := by cases j <;> rfl
theorem gt_st_same (d : α) (e : List α) (i : Nat) (v : α) : gt d (st d e i v) i = v := by
  induction i generalizing e with
  | zero => cases e <;> rfl
  | succ n ih => cases e with
    | nil => exact ih []
    | cons x e => exact ih e
theorem gt_st_ne (d : α) (e : List α) {i j : Nat} (v : α) (h : i ≠ j) : gt d (st d e i v) j = gt d e j := by
  induction i generalizing e j with
  | zero =>
    cases j with
    | zero => exact absurd rfl h
    | succ j => cases e with
      | nil => simp [st, gt, gt_nil]
      | cons x e => rfl
  | succ n ih =>
    cases j with
    | zero => cases e <;> rfl
    | succ j =>
      have h' : n ≠ j := fun e => h (by omega)
      cases e with
      | nil => simp only [st, gt]; rw [ih [] h', gt_nil]
      | cons x e => simp only [st, gt]; exact ih e h'
theorem gt_st (d : α) (e : List α) (i j : Nat) (v : α) : gt d (st d e i v) j = if i = j then v else gt d e j := by
  split
  · rename_i h; subst h; exact gt_st_same _ _ _ _
  · rename_i h; exact gt_st_ne _ _ _ h
theorem st_length (d : α) (e : List α) (i : Nat) (v : α) : (st d e i v).length = max e.length (i + 1) := by
  induction i generalizing e with
  | zero => cases e <;> simp [st]
  | succ n ih => cases e with
    | nil => simp [st, ih]
    | cons x e => simp [st, ih]
theorem gt_ge (d : α) : ∀ (e : List α) (i : Nat), e.length ≤ i → gt d e i = d
  | [], i, _ => gt_nil _ _
  | x :: e, 0, h => by simp at h
  | x :: e, i + 1, h => gt_ge d e i (by simpa using h)
theorem gt_take (d : α) : ∀ (e : List α) (n i : Nat), i < n → gt d (e.take n) i = gt d e i
  | [], n, i, _ => by simp
  | x :: e, 0, i, h => by omega
  | x :: e, n + 1, 0, h => rfl
  | x :: e, n + 1, i + 1, h => gt_take d e n i (by omega)
theorem gt_getElem? (d : α) : ∀ (e : List α) (i : Nat), gt d e i = (e[i]?).getD d
  | [], i => by simp [gt_nil]
  | x :: e, 0 => rfl
  | x :: e, i + 1 => by simpa [gt] using gt_getElem? d e i
def mapO (f : α → Option α) : List α → Option (List α)
  | [] => some []
  | x :: l => (f x).bind fun y => (mapO f l).map fun m => y :: m
end

abbrev VHeap := List VB
def hg (H : VHeap) (b : Nat) : VB := gt ⟨0, 0, false, []⟩ H b
def hs (H : VHeap) (b : Nat) (x : VB) : VHeap := st ⟨0, 0, false, []⟩ H b x

/-! ### Values -/
def dvLeaf : Value → DV
  | .bool b => .lit (.bool b)
  | .int k n => .lit (.int k n)
  | .string s => .lit (.string s)
  | .pointer none => .lit (.pointer none)
  | .slice none 0 0 => .lit (.slice none 0 0)
  | .map none => .lit (.map none)
  | .nilFunc => .lit .nilFunc
  | _ => .bad
def dvOf : Value → DV
  | .agg cs => .agg (cs.toList.map dvLeaf)
  | v => dvLeaf v
def vev (E : List DV) : Opd → DV
  | .t n => gt .bad E n
  | .c v => dvOf v
  | .f n => .fn n []
def vset (E : List DV) (d : Option Nat) (v : DV) : List DV := match d with | none => E | some d => st .bad E d v
def cellsD : DV → List DV
  | .agg l => l
  | d => [d]
/-- What can lie in one cell. -/
def oneD : DV → Bool
  | .lit _ => true
  | .sl _ => true
  | .rp _ => true
  | .fn _ _ => true
  | .mp _ _ _ _ => true
  | .ms _ _ _ _ _ => true
  | _ => false
mutual
/-- Nothing that can be written is reached. -/
def closedD : DV → Bool
  | .lit (.slice _ _ _) => false
  | .lit _ => true
  | .bad => true
  | .agg l => closedL l
  | .tup l => closedL l
  | .fn _ l => closedL l
  | .sl _ => true
  | .rp _ => true
  | .mp _ _ _ _ => false
  | .ms _ _ _ _ _ => false
def closedL : List DV → Bool
  | [] => true
  | d :: l => closedD d && closedL l
end
def lit1 : DV → Bool
  | .lit (.slice _ _ _) => false
  | .lit _ => true
  | _ => false
def lit2 : DV → Bool
  | .agg l => l.all lit1
  | d => lit1 d
/-- Numbers and the like alone. -/
def litD : DV → Bool
  | .tup l => l.all lit2
  | d => lit2 d

def VB.at_ (x : VB) (ver i : Nat) : Option (List DV) := if x.live = true ∧ x.ver = ver then x.L[i]? else none
def VB.part (x : VB) (ver i l : Nat) : Option (List (List DV)) :=
  if x.live = true ∧ x.ver = ver ∧ x.e ≠ 0 ∧ i + l ≤ x.L.length then some ((x.L.drop i).take l) else none

/-- What is seen of a value by one that can't write. -/
def frzD (H : VHeap) : Nat → DV → Option DV
  | 0, _ => none
  | n + 1, d => match d with
    | .lit (.slice _ _ _) => some (.sl [])
    | .agg l => (mapO (frzD H n) l).map .agg
    | .tup l => (mapO (frzD H n) l).map .tup
    | .fn f l => (mapO (frzD H n) l).map (.fn f)
    | .mp b ver i k => ((hg H b).at_ ver i).bind fun el => if k ≤ el.length then (mapO (frzD H n) (el.drop k)).map .rp else none
    | .ms b ver i l c => ((hg H b).part ver i l).bind fun L => if l ≤ c then (if L.all closedL then some (.sl L) else (mapO (mapO (frzD H n)) L).map .sl) else none
    | d => some d
/-- New numbers and lists of such alone. -/
def freshD (H : VHeap) : Nat → DV → Bool
  | 0, _ => false
  | n + 1, d => match d with
    | .lit _ => true
    | .agg l => l.all (freshD H n)
    | .tup l => l.all (freshD H n)
    | .ms b ver i l _ => match (hg H b).part ver i l with
      | some L => L.all fun el => el.all (freshD H n)
      | none => false
    | _ => false

def vbin (op : BinOp) (x y : DV) : Option DV := match x, y with
  | .lit a, .lit b => (bin op a b).map .lit
  | _, _ => none
def veqN (kind : Nat) (x y : DV) : Option Bool := match kind, x, y with
  | 0, .lit (.bool a), .lit (.bool b) => some (a == b)
  | 1, .lit (.pointer p), .lit (.pointer none) => some p.isNone
  | 1, .rp _, .lit (.pointer none) => some false
  | 2, .lit (.slice p _ _), .lit (.slice none _ _) => some p.isNone
  | 2, .sl (_ :: _), .lit (.slice none _ _) => some false
  | 2, .ms _ _ _ _ _, .lit (.slice none _ _) => some false
  | _, _, _ => none
def veqsL (xs ys : List DV) : List (Nat × Bool) → Option Bool
  | [] => some true
  | o :: fs => match xs[o.1]?, ys[o.1]? with
    | some (.lit x), some (.lit y) => match leafEq o.2 x y with
      | some true => veqsL xs ys fs
      | some false => some false
      | none => none
    | _, _ => none
def vfill (cells : List DV) : List (Nat × Nat × DV) → Option (List DV)
  | [] => some cells
  | (off, size, v) :: rest => if (cellsD v).length = size ∧ off + size ≤ cells.length ∧ (cellsD v).all oneD = true then vfill (cells.take off ++ cellsD v ++ cells.drop (off + size)) rest else none
def vPs (E : List DV) (ps : List (Nat × Nat × Opd)) : List (Nat × Nat × DV) := ps.map fun p => (p.1, p.2.1, vev E p.2.2)
/-- n elements of size e. -/
def chunks (e : Nat) : Nat → List DV → List (List DV)
  | 0, _ => []
  | n + 1, l => l.take e :: chunks e n (l.drop e)
def vmm (mx : Bool) (x : DV) : List DV → Option DV
  | [] => some x
  | y :: ys => match x, y with
    | .lit a, .lit b => (mm mx a b).bind fun v => vmm mx (.lit v) ys
    | _, _ => none

/-! ### Operations -/
abbrev VEff := Option VHeap
abbrev VCalls := Nat → List DV → VHeap → Nat → Option (DV × VHeap)
def newB (base : Nat) (dst : Option Nat) (H : VHeap) (e : Nat) (L : List (List DV)) (mk : Nat → Nat → DV) : Option (DV × VEff) :=
  dst.map fun d => (mk (base + d) ((hg H (base + d)).ver + 1), some (hs H (base + d) ⟨(hg H (base + d)).ver + 1, e, true, L⟩))
/-- An element is written. -/
def putE (H : VHeap) (b ver i k : Nat) (vs : List DV) : Option VHeap :=
  match (hg H b).at_ ver i with
  | some el => if k + vs.length ≤ el.length ∧ vs.all oneD = true then
      some (hs H b { hg H b with L := (hg H b).L.set i (el.take k ++ vs ++ el.drop (k + vs.length)) })
    else none
  | none => none
/-- Elements are written. -/
def putL (H : VHeap) (b ver i : Nat) (X : List (List DV)) : Option VHeap :=
  if (hg H b).live = true ∧ (hg H b).ver = ver ∧ (hg H b).e ≠ 0 ∧ i + X.length ≤ (hg H b).L.length ∧ X.all (fun el => el.length == (hg H b).e && el.all oneD) = true then
    some (hs H b { hg H b with L := (hg H b).L.take i ++ X ++ (hg H b).L.drop (i + X.length) })
  else none
def elems (H : VHeap) (esz : Nat) : DV → Option (List (List DV))
  | .lit (.slice none _ _) => some []
  | .sl L => if L.all (fun el => el.length == esz) then some L else none
  | .ms b ver i l _ => if (hg H b).e = esz then (hg H b).part ver i l else none
  | _ => none
def vslice (esz : Nat) (H : VHeap) (x : DV) (lo hi : Option DV) : Option DV :=
  let w (o : Option DV) (d : Nat) : Option Int := match o with
    | none => some d
    | some (.lit (.int _ j)) => some j
    | some _ => none
  match x with
  | .lit (.slice none _ _) => (w lo 0).bind fun a => (w hi 0).bind fun b => if a = 0 ∧ b = 0 then some (.lit (.slice none 0 0)) else none
  | .sl L => (w lo 0).bind fun a => (w hi L.length).bind fun b =>
      if 0 ≤ a ∧ a ≤ b ∧ b ≤ L.length ∧ L.all (fun el => el.length == esz) = true then some (.sl ((L.drop a.toNat).take (b.toNat - a.toNat))) else none
  | .ms m ver i l c => (w lo 0).bind fun a => (w hi l).bind fun b =>
      if 0 ≤ a ∧ a ≤ b ∧ b ≤ c ∧ (hg H m).live = true ∧ (hg H m).ver = ver ∧ (hg H m).e = esz then some (.ms m ver (i + a.toNat) (b.toNat - a.toNat) (c - a.toNat)) else none
  | _ => none
def vappend (esz bytes base : Nat) (dst : Option Nat) (H : VHeap) (s x : DV) : Option (DV × VEff) :=
  (elems H esz x).bind fun X =>
    match s with
    | .lit (.slice none 0 0) =>
      if X = [] then some (s, none)
      else if X.length * bytes ≤ 140737488355328 ∧ X.length ≤ 9223372036854775807 ∧ esz ≠ 0 ∧ X.all (fun el => el.length == esz && el.all oneD) = true then
        newB base dst H esz X fun b ver => .ms b ver 0 X.length X.length
      else none
    | .ms b ver i l c =>
      if l + X.length ≤ c then
        if X = [] then some (s, none)
        else if (hg H b).e = esz then (putL H b ver (i + l) X).map fun H' => (.ms b ver i (l + X.length) c, some H')
        else none
      else if (hg H b).e = esz ∧ esz ≠ 0 ∧ l ≤ c ∧ (l + X.length) * bytes ≤ 140737488355328 ∧ l + X.length ≤ 9223372036854775807 ∧ X.all (fun el => el.length == esz && el.all oneD) = true then
        ((hg H b).part ver i l).bind fun L =>
          let H' := hs H b ⟨ver + 1, 0, false, []⟩
          newB base dst H' esz (L ++ X) fun b ver => .ms b ver 0 (l + X.length) (l + X.length)
      else none
    | _ => none
def vcopy (esz : Nat) (H : VHeap) (d x : DV) : Option (DV × VEff) :=
  (elems H esz x).bind fun X =>
    match d with
    | .lit (.slice none _ _) => some (.lit (.int .i64 0), none)
    | .ms b ver i l c =>
      if X.take l = [] then some (.lit (.int .i64 0), none)
      else if (hg H b).e = esz then (putL H b ver i (X.take l)).map fun H' => (.lit (.int .i64 (X.take l).length), some H')
      else none
    | _ => none
def vclear (zs : List Value) (H : VHeap) (d : DV) : Option (DV × VEff) :=
  match d with
  | .lit (.slice none _ _) => some (.tup [], none)
  | .ms b ver i l c =>
    if l = 0 then some (.tup [], none)
    else if (hg H b).e = zs.length then (putL H b ver i (List.replicate l (zs.map dvLeaf))).map fun H' => (.tup [], some H')
    else none
  | _ => none
/-- A list without elements that is nil. -/
def nilD : DV → Bool
  | .lit (.slice none _ _) => true
  | _ => false
/-- What a call hands back. -/
def vback (H H1 : VHeap) (dst : Option Nat) (cl frz : Bool) (d : DV) : Option (DV × VEff) :=
  if frz then
    if cl || freshD H1 6 d then (frzD H1 6 d).map fun d' => (d', if litD d then none else some H) else none
  else match d with
    | .mp b ver 0 0 => match (hg H1 b).at_ ver 0 with
      | some el => if (hg H1 b).L.length = 1 ∧ (hg H1 b).e = 0 ∧ closedL el = true ∧ (cl || el.all lit1) = true then newB 0 dst H 0 [el] fun b ver => .mp b ver 0 0 else none
      | none => none
    | .ms b ver 0 l c =>
      if (hg H1 b).live = true ∧ (hg H1 b).ver = ver ∧ (hg H1 b).L.length = c ∧ l ≤ c ∧ (hg H1 b).L.all closedL = true ∧ (cl || (hg H1 b).L.all (fun el => el.all lit1)) = true then
        newB 0 dst H (hg H1 b).e (hg H1 b).L fun b ver => .ms b ver 0 l c
      else none
    | .sl [] => if cl then some (.sl [], some H) else none
    | d => if litD d || nilD d then some (d, none) else none
def vcall (vc : VCalls) (sh : Nat → Bool) (base nt : Nat) (dst : Option Nat) (g : Nat) (args : List DV) (frz : Bool) (H : VHeap) : Option (DV × VEff) :=
  if sh g then
    if frz then none else (vc g args H (max H.length (base + nt))).map fun r => (r.1, some r.2)
  else (mapO (frzD H 6) args).bind fun args' => (vc g args' [] 0).bind fun r => vback H r.2 (dst.map (base + ·)) (closedL args) frz r.1

def viop (vc : VCalls) (sh : Nat → Bool) (base nt : Nat) (dst : Option Nat) (op : IOp) (E : List DV) (H : VHeap) : Option (DV × VEff) :=
  match op with
  | .move x => some (vev E x, none)
  | .pick c a b => match vev E c with
    | .lit (.bool t) => some (if t then vev E a else vev E b, none)
    | _ => none
  | .box x => if (cellsD (vev E x)).all oneD = true then newB base dst H 0 [cellsD (vev E x)] fun b ver => .mp b ver 0 0 else none
  | .alloc zs => newB base dst H 0 [zs.map dvLeaf] fun b ver => .mp b ver 0 0
  | .build zs ps => (vfill (zs.map dvLeaf) (vPs E ps)).map fun cs => (.agg cs, none)
  | .buildSlice esz n zs ps => if esz * n = zs.length ∧ esz ≠ 0 then (vfill (zs.map dvLeaf) (vPs E ps)).bind fun cs => newB base dst H esz (chunks esz n cs) fun b ver => .ms b ver 0 n n else none
  | .load1 a => match vev E a with
    | .rp l => l.head?.map fun d => (d, none)
    | .mp b ver i k => ((hg H b).at_ ver i).bind fun el => (el[k]?).map fun d => (d, none)
    | _ => none
  | .loadN n a => match vev E a with
    | .rp l => if n ≤ l.length then some (.agg (l.take n), none) else none
    | .mp b ver i k => ((hg H b).at_ ver i).bind fun el => if k + n ≤ el.length then some (.agg ((el.drop k).take n), none) else none
    | _ => none
  | .store n a x => match vev E a with
    | .mp b ver i k => if (cellsD (vev E x)).length = n then (putE H b ver i k (cellsD (vev E x))).map fun H' => (.bad, some H') else none
    | _ => none
  | .nilCheck x => match vev E x with
    | .rp l => some (.rp l, none)
    | .mp b ver i k => if (hg H b).live = true ∧ (hg H b).ver = ver then some (.mp b ver i k, none) else none
    | _ => none
  | .bin op x y => (vbin op (vev E x) (vev E y)).map fun d => (d, none)
  | .eqn kind neg x y => (veqN kind (vev E x) (vev E y)).map fun b => (.lit (.bool (if neg then !b else b)), none)
  | .eqs neg n fs x y => match vev E x, vev E y with
    | .agg xs, .agg ys => if xs.length = n ∧ ys.length = n then (veqsL xs ys fs).map fun b => (.lit (.bool (if neg then !b else b)), none) else none
    | _, _ => none
  | .un op x => match vev E x with
    | .lit v => (unV op v).map fun v => (.lit v, none)
    | _ => none
  | .conv k x => match vev E x with
    | .lit (.int _ n) => some (.lit (.int k (k.wrap n)), none)
    | _ => none
  | .mkFunc f caps => some (.fn f (caps.map (vev E)), none)
  | .mkSlice esz bytes zs l c => match vev E l, vev E c with
    | .lit (.int _ n), .lit (.int _ m) => if 0 ≤ n ∧ n ≤ m ∧ bytes * m ≤ 281474976710656 ∧ m ≤ 9223372036854775807 ∧ zs.length = esz ∧ esz ≠ 0 then
        newB base dst H esz (List.replicate m.toNat (zs.map dvLeaf)) fun b ver => .ms b ver 0 n.toNat m.toNat
      else none
    | _, _ => none
  | .slice esz x lo hi => (vslice esz H (vev E x) (lo.map (vev E)) (hi.map (vev E))).map fun d => (d, none)
  | .fieldAddr off x => match vev E x with
    | .rp l => if off ≤ l.length then some (.rp (l.drop off), none) else none
    | .mp b ver i k => some (.mp b ver i (k + off), none)
    | _ => none
  | .field1 off x => match vev E x with
    | .agg l => (l[off]?).map fun d => (d, none)
    | _ => none
  | .fieldN off n x => match vev E x with
    | .agg l => if off + n ≤ l.length then some (.agg ((l.drop off).take n), none) else none
    | _ => none
  | .idxAddr esz x i => match vev E x, vev E i with
    | .sl L, .lit (.int _ j) => if 0 ≤ j ∧ j < L.length then (L[j.toNat]?).bind fun el => if el.length = esz then some (.rp el, none) else none else none
    | .ms b ver i l _, .lit (.int _ j) => if 0 ≤ j ∧ j < l ∧ (hg H b).live = true ∧ (hg H b).ver = ver ∧ (hg H b).e = esz then some (.mp b ver (i + j.toNat) 0, none) else none
    | _, _ => none
  | .idxAddrA len esz x i => match vev E x, vev E i with
    | .rp l, .lit (.int _ j) => if 0 ≤ j ∧ j < len ∧ j.toNat * esz ≤ l.length then some (.rp (l.drop (j.toNat * esz)), none) else none
    | .mp b ver i k, .lit (.int _ j) => if 0 ≤ j ∧ j < len then some (.mp b ver i (k + j.toNat * esz), none) else none
    | _, _ => none
  | .idx1 len x i => match vev E x, vev E i with
    | .agg l, .lit (.int _ j) => if 0 ≤ j ∧ j < len then (l[j.toNat]?).map fun d => (d, none) else none
    | _, _ => none
  | .extract x i => match vev E x with
    | .tup l => (l[i]?).map fun d => (d, none)
    | _ => none
  | .call f args frz => match vev E f with
    | .fn g caps => vcall vc sh base nt dst g (args.map (vev E) ++ caps) frz H
    | _ => none
  | .len x => match vev E x with
    | .sl L => some (.lit (.int .i64 L.length), none)
    | .ms b ver i l c => if (hg H b).live = true ∧ (hg H b).ver = ver then some (.lit (.int .i64 l), none) else none
    | .lit (.slice _ n _) => some (.lit (.int .i64 n), none)
    | _ => none
  | .minmax mx x xs => (vmm mx (vev E x) (xs.map (vev E))).map fun d => (d, none)
  | .append esz bytes s x => vappend esz bytes base dst H (vev E s) (vev E x)
  | .copy esz d x => vcopy esz H (vev E d) (vev E x)
  | .clear zs x => vclear zs H (vev E x)
  | .idxS x i => match vev E x, vev E i with
    | .lit (.string s), .lit (.int _ j) => if 0 ≤ j then (s[j.toNat]?).map fun b => (.lit (.int .u8 b.toNat), none) else none
    | _, _ => none

/-! ### Code -/
structure VSt where
  E : List DV
  H : VHeap
  deriving Inhabited
def VSt.eff (s : VSt) (d : Option Nat) (v : DV) (ef : VEff) : VSt := ⟨vset s.E d v, ef.getD s.H⟩
def vwants (E : List DV) : Option (Nat × Bool) → Option Bool
  | none => some true
  | some (t, b) => match gt .bad E t with
    | .lit (.bool c) => some (c == b)
    | .tup _ => some false
    | _ => none
section
variable (vc : VCalls) (sh : Nat → Bool) (base nt : Nat)
def vop (o : IOper) (s : VSt) : Option VSt := match vwants s.E o.guard with
  | some true => (viop vc sh base nt o.dst o.op s.E s.H).map fun r => s.eff o.dst r.1 r.2
  | some false => some { s with E := vset s.E o.dst (.tup []) }
  | none => none
def vops : List IOper → VSt → Option VSt
  | [], s => some s
  | o :: os, s => (vop vc sh base nt o s).bind fun s' => vops os s'
def vopD (o : IOper) (E : List DV) (H : VHeap) : Option (List DV) := match vwants E o.guard with
  | some true => match viop vc sh base nt o.dst o.op E H with
    | some (v, none) => some (vset E o.dst v)
    | _ => none
  | some false => some (vset E o.dst (.tup []))
  | none => none
def vopsD : List IOper → List DV → VHeap → Option (List DV)
  | [], E, _ => some E
  | o :: os, E, H => (vopD vc sh base nt o E H).bind fun E' => vopsD os E' H
/-! A region that draws its order, with effects. -/
def refD1 : DV → List Nat
  | .mp b _ _ _ => [b]
  | .ms b _ _ _ _ => [b]
  | _ => []
def refD : DV → List Nat
  | .agg l => (l.map refD1).flatten
  | .fn _ l => (l.map refD1).flatten
  | d => refD1 d
/-- The other blocks are hidden. -/
def keepV (H : VHeap) (ws : List Nat) : VHeap := (List.range H.length).map fun i => if ws.contains i then hg H i else { hg H i with live := false }
def mergeV (H : VHeap) (ws : List Nat) (H1 : VHeap) : VHeap := (List.range H1.length).map fun i => if (hg H i).live && !ws.contains i then hg H i else hg H1 i
/-- What an operation may write. -/
def wsOf (op : IOp) (E : List DV) : List Nat := match op with
  | .call f args _ => match vev E f with
    | .fn g caps => if sh g then ((args.map (vev E) ++ caps).map refD).flatten else []
    | _ => []
  | .store _ a _ => refD1 (vev E a)
  | .append _ _ s _ => refD1 (vev E s)
  | .copy _ d _ => refD1 (vev E d)
  | .clear _ x => refD1 (vev E x)
  | _ => []
def vcallE (g : Nat) (args : List DV) (dst : Option Nat) (frz : Bool) (H : VHeap) : Option (DV × VEff) :=
  if sh g then
    if frz then none else (vc g args (keepV H (args.map refD).flatten) (max H.length (base + nt))).map fun r => (r.1, some (mergeV H (args.map refD).flatten r.2))
  else vcall vc sh base nt dst g args frz H
def viopE (dst : Option Nat) (op : IOp) (E : List DV) (H : VHeap) : Option (DV × VEff) := match op with
  | .call f args frz => match vev E f with
    | .fn g caps => vcallE vc sh base nt g (args.map (vev E) ++ caps) dst frz H
    | _ => none
  | op => viop vc sh base nt dst op E H
structure VE where
  st : VSt
  H0 : VHeap
  hist : List (VHeap × List Nat)
  ld : List (Nat × Nat × Nat × Nat)
def vldB (E : List DV) : IOp → Option (Nat × Nat)
  | .load1 a => match vev E a with
    | .mp b ver _ _ => some (b, ver)
    | _ => none
  | .loadN _ a => match vev E a with
    | .mp b ver _ _ => some (b, ver)
    | _ => none
  | .slice _ x _ _ => match vev E x with
    | .ms b ver _ _ _ => some (b, ver)
    | _ => none
  | _ => none
def vldAdd (lo hi : Nat) (p : Option (Nat × Nat)) (l : List (Nat × Nat × Nat × Nat)) : List (Nat × Nat × Nat × Nat) := match p with
  | some (b, ver) => if lo < hi then (b, ver, lo, hi) :: l else l
  | none => l
def vopE (o : IOper × Nat × Nat × Nat) (s : VE) : Option VE := match zsE o with
  | some _ => match o.1.dst with
    | some d => some { s with st := ⟨vset s.st.E (some d) (.mp (base + d) (hg s.H0 (base + d)).ver 0 0), s.st.H⟩, ld := vldAdd 0 o.2.2.2 (some (base + d, (hg s.H0 (base + d)).ver)) s.ld }
    | none => none
  | none => match vwants s.st.E o.1.guard with
    | some true => match o.2.1 with
      | 0 => if pureOp o.1.op then (viop vc sh base nt o.1.dst o.1.op s.st.E s.st.H).map fun r => { s with st := ⟨vset s.st.E o.1.dst r.1, s.st.H⟩ } else none
      | 1 => if loadOp o.1.op then (viop vc sh base nt o.1.dst o.1.op s.st.E s.st.H).map fun r => { s with st := ⟨vset s.st.E o.1.dst r.1, s.st.H⟩, ld := vldAdd o.2.2.1 o.2.2.2 (vldB s.st.E o.1.op) s.ld } else none
      | _ => (viopE vc sh base nt o.1.dst o.1.op s.st.E s.st.H).map fun r => { s with st := ⟨vset s.st.E o.1.dst r.1, r.2.getD s.st.H⟩, hist := s.hist ++ [(s.st.H, wsOf sh o.1.op s.st.E)] }
    | some false => some { s with st := ⟨vset s.st.E o.1.dst (.tup []), s.st.H⟩, hist := if o.2.1 = 2 then s.hist ++ [(s.st.H, [])] else s.hist }
    | none => none
def vopsE : List (IOper × Nat × Nat × Nat) → VE → Option VE
  | [], s => some s
  | o :: os, s => (vopE vc sh base nt o s).bind fun s' => vopsE os s'
/-- The variables that are made at any time are made at the begin. -/
def vpre (base : Nat) : Nat → List Nat → List (IOper × Nat × Nat × Nat) → VHeap → Option VHeap
  | _, _, [], H => some H
  | k, ds, o :: os, H => match zsE o with
    | some zs => match o.1.dst with
      | some d => if o.2.2.1 = k ∧ ds.contains d = false then vpre base (k + 1) (d :: ds) os (hs H (base + d) ⟨(hg H (base + d)).ver + 1, 0, true, [zs.map dvLeaf]⟩) else none
      | none => none
    | none => vpre base k ds os H
def vldOk (hist : List (VHeap × List Nat)) (x : Nat × Nat × Nat × Nat) : Bool :=
  (List.range x.2.2.2).all fun j => decide (j < x.2.2.1) || match hist[j]? with
    | some (H, ws) => (hg H x.1).live && (hg H x.1).ver == x.2.1 && !ws.contains x.1
    | none => true
def vrgE (ops : List (IOper × Nat × Nat × Nat)) (s : VSt) : Option (Ex × VSt) :=
  (vpre base 0 [] ops s.H).bind fun H0 => (vopsE vc sh base nt ops ⟨⟨s.E, H0⟩, H0, [], []⟩).bind fun r =>
    if r.ld.all (vldOk r.hist) = true then some (.normal, r.st) else none
def viter (body : VSt → Option (Ex × VSt)) : Nat → VSt → Option (Ex × VSt)
  | 0, _ => none
  | n + 1, s => (body s).bind fun r => match r.1 with
    | .normal => viter body n r.2
    | x => some (x, r.2)
def vrun (k : Nat) : ICode → VSt → Option (Ex × VSt)
  | .skip, s => some (.normal, s)
  | .reg false ops, s => (vops vc sh base nt ops s).map fun s' => (.normal, s')
  | .reg true ops, s => (vopsD vc sh base nt ops s.E s.H).map fun E' => (.normal, { s with E := E' })
  | .rgE ops, s => vrgE vc sh base nt ops s
  | .seq a b, s => (vrun k a s).bind fun r => match r.1 with
    | .normal => vrun k b r.2
    | x => some (x, r.2)
  | .cond c a b, s => match vev s.E c with
    | .lit (.bool true) => vrun k a s
    | .lit (.bool false) => vrun k b s
    | _ => none
  | .block id c, s => (vrun k c s).map fun r => match r.1 with
    | .exit i => (if i = id then .normal else .exit i, r.2)
    | x => (x, r.2)
  | .loop c, s => viter (vrun k c) k s
  | .exit id, s => some (.exit id, s)
  | .ret, s => some (.ret, s)
end
def vres (E : List DV) (H : VHeap) : IRes → Option DV
  | .t n => some (gt .bad E n)
  | .c1 n => match gt .bad E n with
    | .rp l => l.head?
    | .mp b ver i k => ((hg H b).at_ ver i).bind fun el => el[k]?
    | _ => none
  | .cN n t => match gt .bad E t with
    | .rp l => if n ≤ l.length then some (.agg (l.take n)) else none
    | .mp b ver i k => ((hg H b).at_ ver i).bind fun el => if k + n ≤ el.length then some (.agg ((el.drop k).take n)) else none
    | _ => none
def vresL (E : List DV) (H : VHeap) : List IRes → Option (List DV)
  | [] => some []
  | r :: rs => (vres E H r).bind fun v => (vresL E H rs).map fun vs => v :: vs
def vtup : List DV → DV
  | [v] => v
  | vs => .tup vs
def vrunFun (vc : VCalls) (sh : Nat → Bool) (k : Nat) (fn : IFun) (args : List DV) (H : VHeap) (base : Nat) : Option (DV × VHeap) :=
  if args.length ≤ fn.ntmps ∧ H.length ≤ base then
    (vrun vc sh base fn.ntmps k fn.body ⟨args, H⟩).bind fun r => match r.1 with
      | .exit _ => none
      | _ => (vresL r.2.E r.2.H fn.res).map fun vs => (vtup vs, r.2.H)
  else none
/-- slices.Clone of elements of size e. -/
def cloneF (e e2 b : Nat) : IFun := ⟨8, [.t 2], .seq (.reg false [⟨some 2, .move (.c (.slice none 0 0)), none⟩]) (.seq (.seq (.reg false [⟨some 3, .move (.t 0), none⟩, ⟨some 4, .eqn 2 false (.t 3) (.c (.slice none 0 0)), none⟩]) (.cond (.t 4) (.seq (.reg false [⟨some 2, .move (.c (.slice none 0 0)), none⟩]) .ret) .skip)) (.seq (.reg false [⟨some 5, .buildSlice e 0 [] [], none⟩, ⟨some 6, .move (.t 0), none⟩, ⟨some 7, .append e2 b (.t 5) (.t 6), none⟩, ⟨some 2, .move (.t 7), none⟩]) .ret)), false⟩
def cloneB : IFun → Bool
  | ⟨8, [.t 2], .seq (.reg false [⟨some 2, .move (.c (.slice none 0 0)), none⟩]) (.seq (.seq (.reg false [⟨some 3, .move (.t 0), none⟩, ⟨some 4, .eqn 2 false (.t 3) (.c (.slice none 0 0)), none⟩]) (.cond (.t 4) (.seq (.reg false [⟨some 2, .move (.c (.slice none 0 0)), none⟩]) .ret) .skip)) (.seq (.reg false [⟨some 5, .buildSlice _ 0 [] [], none⟩, ⟨some 6, .move (.t 0), none⟩, ⟨some 7, .append _ _ (.t 5) (.t 6), none⟩, ⟨some 2, .move (.t 7), none⟩]) .ret)), false⟩ => true
  | _ => false
theorem cloneB_eq {fn : IFun} (h : cloneB fn = true) : ∃ e e2 b, fn = cloneF e e2 b := by
  unfold cloneB at h
  split at h
  · exact ⟨_, _, _, rfl⟩
  · simp at h
/-- Of an empty list it is not known whether it is nil: its copy is an empty list. -/
def sl0B : List DV → Bool
  | [.sl []] => true
  | _ => false
def clq (fn : IFun) (args : List DV) : Bool := cloneB fn && sl0B args
theorem sl0B_eq {args : List DV} (h : sl0B args = true) : args = [.sl []] := by
  unfold sl0B at h
  split at h
  · rfl
  · simp at h
def vstep (P : Prog) (sh : Nat → Bool) (k : Nat) (vc : VCalls) : VCalls := fun f args H base => match P f with
  | none => none
  | some fn => if fn.iso = sh f then (if clq fn args = true then (if H.length ≤ base then some (.sl [], H) else none) else vrunFun vc sh k fn args H base) else none
def vmach (P : Prog) (sh : Nat → Bool) : Nat → VCalls
  | 0 => fun _ _ _ _ => none
  | k + 1 => vstep P sh k (vmach P sh k)
end Go.Proofs.Cp
