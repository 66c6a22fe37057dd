/- Each operation of the model does what the machine's operation does. -/
import Derived.Test.YtbgdpdkkbmlhdaaCpHeap
import Derived.Test.YtbgdpdkkbmlhdaaCpComp
import Derived.Laws.OwnMore
import Derived.Laws.MakeOwn
import Derived.Laws.Slices
set_option linter.unusedSimpArgs false
set_option linter.unusedVariables false
namespace Go.Proofs.Cp
open Go Go.RowKit

/-- The variables of a frame, as far as 'ok' asks. -/
structure ER (T : Nat → FuncId) (S : Inj) (ok : Nat → Bool) (e : Env) (tmps : Array Value) : Prop where
  at_ : ∀ t, ok t = true → VR T S (get e t) (tmps.getD t undef)
theorem ER.mono {T : Nat → FuncId} {S S2 : Inj} {ok : Nat → Bool} {e : Env} {tmps : Array Value} (hx : Ext S S2) (h : ER T S ok e tmps) : ER T S2 ok e tmps := ⟨fun t ht => (h.at_ t ht).mono hx⟩
theorem ER.set {T : Nat → FuncId} {S : Inj} {nt : Nat} {e : Env} {tmps : Array Value} (hs : tmps.size = nt) (h : ER T S (inT nt) e tmps) (d : Nat) {v v' : Value} (hv : VR T S v v') : ER T S (inT nt) (set e d v) (tmps.setIfInBounds d v') := by
  refine ⟨fun t ht => ?_⟩
  have ht' : t < nt := by simpa [inT] using ht
  by_cases hd : d = t
  · subst hd
    rw [get_set_same]
    simp [hs, ht']; exact hv
  · rw [get_set_ne _ _ hd]
    simp [Array.getElem?_setIfInBounds_ne hd]
    have := h.at_ t ht
    simpa using this
theorem put_size (a : Act) (d : Option Tmp) (v : Value) : (a.put d v).tmps.size = a.tmps.size := by cases d <;> simp [Act.put]
theorem put_defs (a : Act) (d : Option Tmp) (v : Value) : (a.put d v).defers = a.defers := by cases d <;> rfl
theorem ER.setO {T : Nat → FuncId} {S : Inj} {nt : Nat} {e : Env} {a : Act} (hs : a.tmps.size = nt) (h : ER T S (inT nt) e a.tmps) (d : Option Nat) {v v' : Value} (hv : VR T S v v') : ER T S (inT nt) (Cp.setO e d v) (a.put d v').tmps := by
  cases d with
  | none => exact h
  | some d => exact h.set hs d hv

/-- What the model holds of the program's variables. -/
def GL (G : Ctx) (base : Nat) (W : World) : Prop := ∀ g vs, G.glob g = some vs → g < base ∧ ∀ (i : Nat) (v : Value), vs[i]? = some v → W.cell? ⟨g, i, none⟩ = some v
theorem GL.below {G : Ctx} {base : Nat} {W W' : World} (h : GL G base W) (hb : Below base W W') : GL G base W' := fun g vs hg =>
  ⟨(h g vs hg).1, fun i v hv => (hb.cell (h g vs hg).1).trans ((h g vs hg).2 i v hv)⟩

def hof (h : Heap) : Eff → Heap
  | none => h
  | some (h', _) => h'

/-- What a call comes to. -/
def After (T : Nat → FuncId) (S : Inj) (base : Nat) (h : Heap) (W : World) (v : Value) (ef : Eff) (v' : Value) (W' : World) : Prop :=
  ∃ S', Ext S S' ∧ (ef = none → S' = S) ∧ VR T S' v v' ∧ HR T S' base (hof h ef) W' ∧ Below base W W'
def Enters (P : Program) (f : FuncId) : Prop := ∃ F, P.funcs[f]? = some F ∧ F.body.isNone = false ∧ (F.name == "runtime.NumGoroutine") = false
def CallSound (G : Ctx) (call : Calls_) : Prop := ∀ f args h v ef, call f args h = some (v, ef) → ∀ (S : Inj) (base : Nat) (W : World) (args' : List Value),
  HR G.T S base h W → GL G base W → VRs G.T S args args' →
  Enters G.P (G.T f) ∧ Calls G.P (G.T f) args'.toArray W fun en W' => ∃ v', en = .returned v' ∧ After G.T S base h W v ef v' W'

section
variable {G : Ctx} {S : Inj} {base : Nat} {h : Heap} {W : World} {nt : Nat → Bool} {e : Env} {a : Act}

theorem lf_self {T : Nat → FuncId} {S : Inj} {v : Value} (hv : lf 0 v = true) : VR T S v v := by
  cases v with
  | bool b => exact .bool b
  | int k n => exact .int k n
  | string s => exact .str s
  | pointer a => cases a with
    | none => exact .nilP
    | some a => simp [lf] at hv
  | slice a l c => cases a with
    | none =>
      simp [lf] at hv
      obtain ⟨rfl, rfl⟩ := hv
      exact .nilS
    | some a => simp [lf] at hv
  | map a => cases a with
    | none => exact .nilM
    | some a => simp [lf] at hv
  | nilFunc => exact .nilF
  | _ => simp [lf] at hv
theorem lfs_self {T : Nat → FuncId} {S : Inj} {vs : List Value} (hv : vs.all (lf 0) = true) : VRs T S vs vs :=
  ⟨rfl, fun i v v' h1 h2 => by rw [h1] at h2; injection h2 with h2; subst h2; exact lf_self (all_get hv h1)⟩
theorem lf2_self {T : Nat → FuncId} {S : Inj} {v : Value} (hv : lf2 0 v = true) : VR T S v v := by
  cases v with
  | agg cs =>
    simp only [lf2] at hv
    have := lfs_self (T := T) (S := S) hv
    exact .agg _ _ rfl fun i v v' h1 h2 => this.2 i v v' (by simpa using h1) (by simpa using h2)
  | _ => exact lf_self (by simpa [lf2] using hv)

theorem opd_sound (hE : ER G.T S nt e a.tmps) {x : Operand} {y : Opd} (hc : cOpd G nt x = some y) : VR G.T S (ev e y) (a.eval x) := by
  cases x with
  | tmp t =>
    simp only [cOpd] at hc
    split at hc
    · rename_i ht; simp at hc; subst hc; exact hE.at_ t ht
    · simp at hc
  | const v =>
    simp only [cOpd] at hc
    split at hc
    · rename_i hv; simp at hc; subst hc; exact lf2_self hv
    · simp at hc
  | global g => simp [cOpd] at hc
  | func f =>
    simp only [cOpd] at hc
    split at hc
    · split at hc
      · rename_i hT; simp at hc; subst hc
        simp only [ev, Act.eval]
        rw [← hT]
        exact VR.func_mk (l := []) (l' := []) .nil
      · simp at hc
    · simp at hc
theorem opds_sound (hE : ER G.T S nt e a.tmps) : ∀ {xs : List Operand} {ys : List Opd}, cOpds G nt xs = some ys → VRs G.T S (ys.map (ev e)) (xs.map a.eval)
  | [], ys, hc => by simp [cOpds] at hc; subst hc; exact .nil
  | x :: xs, ys, hc => by
    simp only [cOpds, Option.bind_eq_some_iff, Option.map_eq_some_iff] at hc
    obtain ⟨y, h1, ys', h2, rfl⟩ := hc
    exact .cons (opd_sound hE h1) (opds_sound hE h2)

/-- An operation whose run is known. -/
theorem wp_val {P : Program} {o : Oper} {K : Act → World → Prop} {Q : Exit → Act → World → Prop} {v' : Value} {W' : World} (hrun : (execOp a.eval o).run P W = .ok (.value v') W') (hK : K (a.put o.dst v') W') : o.wp P a W K Q := by
  unfold Oper.wp; rw [hrun]; exact hK
theorem wp_skp {P : Program} {o : Oper} {K : Act → World → Prop} {Q : Exit → Act → World → Prop} {W' : World} (hrun : (execOp a.eval o).run P W = .ok .skip W') (hK : K (a.put o.dst undef) W') : o.wp P a W K Q := by
  unfold Oper.wp; rw [hrun]; exact hK

theorem After.pure {T : Nat → FuncId} {v v' : Value} (hr : HR T S base h W) (hv : VR T S v v') : After T S base h W v none v' W := ⟨S, .refl _, fun _ => rfl, hv, hr, .refl _ _⟩

theorem agg_run (t : TypeId) {b : Bool} (hb : isAggT G t = some b) : (isAgg t).run G.P W = .ok b W := by
  unfold isAggT at hb
  cases hu : G.P.underlying t with
  | none => simp [hu] at hb
  | some d =>
    rw [hu] at hb
    cases d <;> simp at hb <;> simp [isAgg, run_underlying hu, hb]
theorem size_run (t : TypeId) {i : TypeInfo} (hi : G.P.info? t = some i) (W : World) : (sizeOf t).run G.P W = .ok i.size W := by simp [sizeOf, typeInfo, hi]
theorem zero_run (t : TypeId) {zs : List Value} (hz : zeroOf G t = some zs) : ∃ i z, G.P.info? t = some i ∧ i.zero = some z ∧ z.cells.toList = zs ∧ z.cells.size = i.size ∧ zs.all (lf 0) = true ∧ ∀ W, (zeroValue t).run G.P W = .ok z W := by
  unfold zeroOf at hz
  cases hi : G.P.info? t with
  | none => simp [hi] at hz
  | some i =>
    simp only [hi] at hz
    cases hz0 : i.zero with
    | none => simp [hz0] at hz
    | some z =>
      simp only [hz0] at hz
      split at hz
      · rename_i hcond
        simp at hz hcond
        subst hz
        exact ⟨i, z, rfl, hz0, rfl, hcond.2, by simpa using hcond.1, fun W => by simp [zeroValue, typeInfo, hi, hz0]⟩
      · simp at hz
end
end Go.Proofs.Cp
