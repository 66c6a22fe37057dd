/- The operations, one by one (6): comparisons of bools, with nil, of structs; a program's variable. -/
import Derived.Test.YtbgdpdkkbmlhdaaCpOps5
import Derived.Laws.StructEq
set_option linter.unusedSimpArgs false
set_option linter.unusedVariables false
namespace Go.Proofs.Cp
open Go Go.RowKit
section
variable {G : Ctx} {S : Inj} {base : Nat} {h : Heap} {W : World} {nt : Nat → Bool} {e : Env} {a : Act} {call : Calls_} {v : Value} {ef : Eff}
variable {dst : Option Tmp} {type : TypeId} {pos : String} {after : Array Edge} {guard : Option (Nat × Bool)}

theorem does_glob {t : TypeId} {g : Nat} {op : IOp} (hr : HR G.T S base h W) (hg : GL G base W) (hc : cGlob G t g = some op) (hio : iop call op e h = some (v, ef)) :
    ∃ v' W', Does G a ⟨dst, .load t (.global g), type, pos, after, guard⟩ W v' W' ∧ After G.T S base h W v ef v' W' := by
  unfold cGlob at hc
  split at hc
  · rename_i i vs hb hi hv
    split at hc
    · rename_i hcond
      simp at hc hcond; subst hc
      simp only [iop, ev, Option.some.injEq, Prod.mk.injEq] at hio
      obtain ⟨rfl, rfl⟩ := hio
      have hall : vs.all (lf 0) = true := by simpa using hcond.2
      have hrun := run_loadCells_list (P := G.P) W ⟨g, 0, none⟩ vs (fun j v hj => by rw [add_lit, Nat.zero_add]; exact (hg g vs hv).2 j v hj)
      rw [hcond.1] at hrun
      refine ⟨.agg vs.toArray, W, .inl ?_, .pure hr (VR.agg_mk (lfs_self hall))⟩
      simp [execOp, Act.eval, Instr.loadAt, Instr.sureAddr, loadVar, agg_run t hb, size_run t hi, hrun]
    · simp at hc
  · rename_i i v0 hb hi hv
    split at hc
    · rename_i hcond
      simp at hc; subst hc
      simp only [iop, ev, Option.some.injEq, Prod.mk.injEq] at hio
      obtain ⟨rfl, rfl⟩ := hio
      refine ⟨v0, W, .inl ?_, .pure hr (lf_self hcond)⟩
      have := (hg g [v0] hv).2 0 v0 rfl
      simp [execOp, Act.eval, Instr.loadAt, Instr.sureAddr, loadVar, agg_run t hb, run_load, this]
    · simp at hc
  · simp at hc

theorem eqG (op : BinOp) (t : TypeId) (x y : Operand) (b : Bool) (w : Value) : eqGuard op t x y (.bool b) w = pure () := by cases op <;> rfl
theorem eqGp (op : BinOp) (t : TypeId) (x y : Operand) (b : Option Addr) (w : Value) : eqGuard op t x y (.pointer b) w = pure () := by cases op <;> rfl
theorem eqGs (op : BinOp) (t : TypeId) (x y : Operand) (b : Option Addr) (l c : Nat) (w : Value) : eqGuard op t x y (.slice b l c) w = pure () := by cases op <;> rfl

theorem eqIn_bool (d : Nat) {t : TypeId} (hu : G.P.underlying t = some .bool) (p q : Bool) : (Op.equalIn (d + 1) t (.bool p) (.bool q)).run G.P W = .ok (p == q) W := by simp [Op.equalIn, run_underlying hu]
theorem eqIn_int (d : Nat) {t : TypeId} {k0 : IntKind} (hu : G.P.underlying t = some (.int k0)) (k : IntKind) (p q : Int) : (Op.equalIn (d + 1) t (.int k p) (.int k q)).run G.P W = .ok (p == q) W := by simp [Op.equalIn, run_underlying hu]
theorem eqIn_ptr (d : Nat) {t el : TypeId} (hu : G.P.underlying t = some (.pointer el)) (p : Option Addr) : (Op.equalIn (d + 1) t (.pointer p) (.pointer none)).run G.P W = .ok p.isNone W := by cases p <;> simp [Op.equalIn, run_underlying hu]
theorem eqIn_slice (d : Nat) {t el : TypeId} (hu : G.P.underlying t = some (.slice el)) (p : Option Addr) (l c : Nat) : (Op.equalIn (d + 1) t (.slice p l c) (.slice none 0 0)).run G.P W = .ok p.isNone W := by cases p <;> simp [Op.equalIn, run_underlying hu]
theorem does_eqn (hE : ER G.T S nt e a.tmps) (hr : HR G.T S base h W) {x z : Operand} {y u : Opd} {t t2 : TypeId} {neg : Bool} {kind : Nat} (hc : cOpd G nt x = some y) (hz : cOpd G nt z = some u)
    (hk : (kind = 0 ∧ G.P.underlying t = some .bool) ∨ (kind = 1 ∧ ∃ el, G.P.underlying t = some (.pointer el)) ∨ (kind = 2 ∧ ∃ el, G.P.underlying t = some (.slice el)))
    (hio : iop call (.eqn kind neg y u) e h = some (v, ef)) :
    ∃ v' W', Does G a ⟨dst, .binOp (if neg then .neq else .eql) t x z t2, type, pos, after, guard⟩ W v' W' ∧ After G.T S base h W v ef v' W' := by
  have h1 := opd_sound hE hc
  have h2 := opd_sound hE hz
  simp only [iop, Option.map_eq_some_iff, Prod.mk.injEq] at hio
  obtain ⟨b, hb, rfl, rfl⟩ := hio
  have key : (∀ op, eqGuard op t x z (a.eval x) (a.eval z) = pure ()) ∧ (Op.equal t (a.eval x) (a.eval z)).run G.P W = .ok b W ∧ (∀ op, (op = .eql ∨ op = .neq) → binOp op t (a.eval x) (a.eval z) = (match op with | .eql => do pure (.bool (← Op.equal t (a.eval x) (a.eval z))) | _ => do pure (.bool (!(← Op.equal t (a.eval x) (a.eval z)))))) := by
    unfold eqN at hb
    split at hb
    · rename_i p q hx hy
      rw [hx] at h1; rw [hy] at h2
      rw [h1.inv_bool, h2.inv_bool]
      simp at hb; subst hb
      rcases hk with ⟨_, hu⟩ | ⟨hk, _⟩ | ⟨hk, _⟩
      · refine ⟨fun op => eqG _ _ _ _ _ _, eqIn_bool 9999 hu _ _, fun op ho => by rcases ho with rfl | rfl <;> rfl⟩
      · cases hk
      · cases hk
    · rename_i p hx hy
      rw [hx] at h1; rw [hy] at h2
      obtain ⟨p', e1, hp⟩ := h1.inv_ptr'
      rw [e1, h2.inv_nilP]
      simp at hb; subst hb
      rcases hk with ⟨hk, _⟩ | ⟨_, el, hu⟩ | ⟨hk, _⟩
      · cases hk
      · refine ⟨fun op => eqGp _ _ _ _ _ _, ?_, fun op ho => by rcases ho with rfl | rfl <;> rfl⟩
        rw [← hp]
        exact eqIn_ptr 9999 hu _
      · cases hk
    · rename_i p l c l2 c2 hx hy
      rw [hx] at h1; rw [hy] at h2
      obtain ⟨p', c', e1, hp⟩ := h1.inv_slice'
      rw [e1, (h2.inv_nilS).2.2]
      simp at hb; subst hb
      rcases hk with ⟨hk, _⟩ | ⟨hk, _⟩ | ⟨_, el, hu⟩
      · cases hk
      · cases hk
      · refine ⟨fun op => eqGs _ _ _ _ _ _ _ _, ?_, fun op ho => by rcases ho with rfl | rfl <;> rfl⟩
        rw [← hp]
        exact eqIn_slice 9999 hu _ _ _
    · simp at hb
  obtain ⟨k1, k2, k3⟩ := key
  refine ⟨.bool (if neg then !b else b), W, .inl ?_, .pure hr (.bool _)⟩
  cases neg
  · simp [execOp, k1, k3 .eql (.inl rfl), k2]
  · simp [execOp, k1, k3 .neq (.inr rfl), k2]

/-! ### '==' of structs -/
theorem leafEq_sound {T : Nat → FuncId} {x y x' y' : Value} {k b : Bool} (h1 : VR T S x x') (h2 : VR T S y y') (h : leafEq k x y = some b) : leafEq k x' y' = some b := by
  unfold leafEq at h
  split at h
  · rw [h1.inv_int, h2.inv_int]; exact h
  · rw [h1.inv_bool, h2.inv_bool]; exact h
  · simp at h
theorem eqsL_sound {T : Nat → FuncId} {X Y X' Y' : List Value} (h1 : VRs T S X X') (h2 : VRs T S Y Y') : ∀ {fs : List (Nat × Bool)} {b : Bool}, eqsL X Y fs = some b → eqsL X' Y' fs = some b
  | [], b, h => h
  | o :: fs, b, h => by
    simp only [eqsL] at h ⊢
    split at h
    · rename_i x y hx hy
      obtain ⟨x', a1, a2⟩ := h1.get' hx
      obtain ⟨y', b1, b2⟩ := h2.get' hy
      rw [a1, b1]
      simp only
      split at h
      · rename_i hl; rw [leafEq_sound a2 b2 hl]; exact eqsL_sound h1 h2 h
      · rename_i hl; rw [leafEq_sound a2 b2 hl]; exact h
      · simp at h
    · simp at h
theorem eqsL_append {X Y : List Value} : ∀ {fs gs : List (Nat × Bool)} {b : Bool}, eqsL X Y (fs ++ gs) = some b → (eqsL X Y fs = some false ∧ b = false) ∨ (eqsL X Y fs = some true ∧ eqsL X Y gs = some b)
  | [], gs, b, h => .inr ⟨rfl, h⟩
  | o :: fs, gs, b, h => by
    simp only [List.cons_append, eqsL] at h ⊢
    split at h
    · rename_i x y hx hy
      split at h
      · exact eqsL_append h
      · simp at h; exact .inl ⟨rfl, h⟩
      · simp at h
    · simp at h

/-- The value of type t at place off. -/
def IsAt (G : Ctx) (X : Array Value) (t : TypeId) (off : Nat) (x : Value) : Prop :=
  (isAggT G t = some true ∧ ∃ i, G.P.info? t = some i ∧ x = .agg (X.extract off (off + i.size))) ∨ (isAggT G t = some false ∧ X[off]? = some x)

theorem eqFields_sound (D : Nat) (X Y : Array Value) (f : TypeId → Nat → Option (List (Nat × Bool)))
    (ih : ∀ t off l b x y, f t off = some l → eqsL X.toList Y.toList l = some b → IsAt G X t off x → IsAt G Y t off y → (Op.equalIn D t x y).run G.P W = .ok b W)
    (leafOk : ∀ t off l, f t off = some l → isAggT G t = some true ∨ (isAggT G t = some false ∧ (∃ k, l = [(off, k)]) ∧ ∃ i, G.P.info? t = some i ∧ i.size = 1)) (size off : Nat) :
    ∀ (fs : List Field) (l : List (Nat × Bool)) (b : Bool), eqLFields G f size off fs = some l → eqsL X.toList Y.toList l = some b →
      (Op.eqFields D (X.extract off (off + size)) (Y.extract off (off + size)) fs).run G.P W = .ok b W
  | [], l, b, hl, hb => by
    simp [eqLFields] at hl; subst hl
    simp [eqsL] at hb; subst hb
    simp [Op.eqFields]
  | g :: gs, l, b, hl, hb => by
    simp only [eqLFields] at hl
    split at hl
    · simp at hl
    · rename_i hn
      split at hl
      · rename_i j hj
        split at hl
        · rename_i hle
          simp only [Option.bind_eq_some_iff, Option.map_eq_some_iff] at hl
          obtain ⟨m, hm, l', hl', rfl⟩ := hl
          -- the parts
          have hlk := leafOk g.type (off + g.offset) m hm
          have hparts : ∀ (Z : Array Value), (isAggT G g.type = some false → ∃ z, Z[off + g.offset]? = some z) → ∃ z, (part g.type (Z.extract off (off + size)) g.offset).run G.P W = .ok z W ∧ IsAt G Z g.type (off + g.offset) z := by
            intro Z hZ
            rcases hlk with hagg | ⟨hagg, _, i, hi, hi1⟩
            · refine ⟨.agg (Z.extract (off + g.offset) (off + g.offset + j.size)), ?_, .inl ⟨hagg, j, hj, rfl⟩⟩
              simp [part, agg_run g.type hagg, size_run g.type hj]
              rw [Nat.min_eq_left hle, Nat.add_assoc]
            · obtain ⟨z, hz⟩ := hZ hagg
              refine ⟨z, ?_, .inr ⟨hagg, hz⟩⟩
              rw [hj] at hi; injection hi with hi; subst hi
              refine part_run g.type _ _ hagg ?_
              rw [Array.getElem?_extract]
              have hlt := (Array.getElem?_eq_some_iff.1 hz).1
              rw [if_pos (by omega)]; exact hz
          have hb' := eqsL_append hb
          have hleaf : isAggT G g.type = some false → (∃ z, X[off + g.offset]? = some z) ∧ ∃ z, Y[off + g.offset]? = some z := by
            intro hf
            rcases hlk with hagg | ⟨_, ⟨k, rfl⟩, _⟩
            · rw [hf] at hagg; cases hagg
            · have : ∃ c, eqsL X.toList Y.toList [(off + g.offset, k)] = some c := by
                rcases hb' with ⟨h1, _⟩ | ⟨h1, _⟩
                · exact ⟨_, h1⟩
                · exact ⟨_, h1⟩
              obtain ⟨c, hc⟩ := this
              simp only [eqsL] at hc
              split at hc
              · rename_i x y hx hy
                exact ⟨⟨x, by simpa using hx⟩, ⟨y, by simpa using hy⟩⟩
              · simp at hc
          obtain ⟨x, hx1, hx2⟩ := hparts X (fun hf => (hleaf hf).1)
          obtain ⟨y, hy1, hy2⟩ := hparts Y (fun hf => (hleaf hf).2)
          rw [Op.eqFields]
          simp only [if_pos (show g.name ≠ "_" from hn), Sem.run_bind, hx1, hy1, Result.andThen_ok]
          rcases hb' with ⟨h1, rfl⟩ | ⟨h1, h2⟩
          · rw [ih _ _ _ _ _ _ hm h1 hx2 hy2]; simp
          · rw [ih _ _ _ _ _ _ hm h1 hx2 hy2]
            simp
            exact eqFields_sound D X Y f ih leafOk size off gs l' b hl' h2
        · simp at hl
      · simp at hl

theorem eqLeaves_leaf : ∀ (n : Nat) (t : TypeId) (off : Nat) (l : List (Nat × Bool)), eqLeaves G n t off = some l → isAggT G t = some true ∨ (isAggT G t = some false ∧ (∃ k, l = [(off, k)]) ∧ ∃ i, G.P.info? t = some i ∧ i.size = 1)
  | 0, t, off, l, h => by simp [eqLeaves] at h
  | n + 1, t, off, l, h => by
    simp only [eqLeaves] at h
    split at h
    · rename_i hu hi
      split at h
      · simp at h; exact .inr ⟨by simp [isAggT, hu], ⟨_, h.symm⟩, _, hi, by assumption⟩
      · simp at h
    · rename_i hu hi
      split at h
      · simp at h; exact .inr ⟨by simp [isAggT, hu], ⟨_, h.symm⟩, _, hi, by assumption⟩
      · simp at h
    · rename_i hu hi
      exact .inl (by simp [isAggT, hu])
    · simp at h

theorem equalIn_sound (X Y : Array Value) : ∀ (n D : Nat), n ≤ D → ∀ (t : TypeId) (off : Nat) (l : List (Nat × Bool)) (b : Bool) (x y : Value), eqLeaves G n t off = some l → eqsL X.toList Y.toList l = some b →
    IsAt G X t off x → IsAt G Y t off y → (Op.equalIn D t x y).run G.P W = .ok b W
  | 0, D, _, t, off, l, b, x, y, hl, _, _, _ => by simp [eqLeaves] at hl
  | n + 1, 0, hD, _, _, _, _, _, _, _, _, _, _ => by omega
  | n + 1, D + 1, hD, t, off, l, b, x, y, hl, hb, hx, hy => by
    simp only [eqLeaves] at hl
    have leaf : ∀ (hf : isAggT G t = some false) (k : Bool), l = [(off, k)] → leafEq k x y = some b := by
      intro hf k hl
      subst hl
      have hx' : X[off]? = some x := by
        rcases hx with ⟨h1, _⟩ | ⟨_, h1⟩
        · rw [hf] at h1; cases h1
        · exact h1
      have hy' : Y[off]? = some y := by
        rcases hy with ⟨h1, _⟩ | ⟨_, h1⟩
        · rw [hf] at h1; cases h1
        · exact h1
      simp only [eqsL, Array.getElem?_toList, hx', hy'] at hb
      split at hb
      · rename_i hh; simp at hb; subst hb; exact hh
      · rename_i hh; simp at hb; subst hb; exact hh
      · simp at hb
    split at hl
    · rename_i k i hu hi
      split at hl
      · simp at hl
        have he := leaf (by simp [isAggT, hu]) _ hl.symm
        unfold leafEq at he
        split at he
        · rename_i k1 a1 k2 a2 _
          split at he
          · rename_i hk; subst hk
            simp at he; subst he
            exact eqIn_int D hu _ _ _
          · simp at he
        · exact absurd ‹false = true› (by decide)
        · simp at he
      · simp at hl
    · rename_i i hu hi
      split at hl
      · simp at hl
        have he := leaf (by simp [isAggT, hu]) _ hl.symm
        unfold leafEq at he
        split at he
        · exact absurd ‹true = false› (by decide)
        · simp at he; subst he
          exact eqIn_bool D hu _ _
        · simp at he
      · simp at hl
    · rename_i fs i hu hi
      split at hl
      · simp at hl
      · rename_i hs
        have hagg : isAggT G t = some true := by simp [isAggT, hu]
        have hx' : x = .agg (X.extract off (off + i.size)) := by
          rcases hx with ⟨_, j, hj, h1⟩ | ⟨h1, _⟩
          · rw [hi] at hj; injection hj with hj; subst hj; exact h1
          · rw [hagg] at h1; cases h1
        have hy' : y = .agg (Y.extract off (off + i.size)) := by
          rcases hy with ⟨_, j, hj, h1⟩ | ⟨h1, _⟩
          · rw [hi] at hj; injection hj with hj; subst hj; exact h1
          · rw [hagg] at h1; cases h1
        subst hx'; subst hy'
        have hf : G.P.fieldsOf t = fs := by simp [Program.fieldsOf, hu]
        rw [run_equalIn_struct (P := G.P) W D t _ _ (by rw [hf]; exact hu) (by simpa using hs), hf]
        exact eqFields_sound D X Y _ (fun t off l b x y h1 h2 h3 h4 => equalIn_sound X Y n D (by omega) t off l b x y h1 h2 h3 h4) (fun t off l h => eqLeaves_leaf n t off l h) i.size off fs.toList l b hl hb
    · simp at hl

theorem does_eqs (hE : ER G.T S nt e a.tmps) (hr : HR G.T S base h W) {x z : Operand} {y u : Opd} {t t2 : TypeId} {neg : Bool} {fs : Array Field} {i : TypeInfo} {l : List (Nat × Bool)} (hc : cOpd G nt x = some y) (hz : cOpd G nt z = some u)
    (hu : G.P.underlying t = some (.struct fs)) (hg : G.P.eqGuardType G.P.depth t = false) (hl : eqLeaves G 9 t 0 = some l) (hi : G.P.info? t = some i)
    (hio : iop call (.eqs neg i.size l y u) e h = some (v, ef)) :
    ∃ v' W', Does G a ⟨dst, .binOp (if neg then .neq else .eql) t x z t2, type, pos, after, guard⟩ W v' W' ∧ After G.T S base h W v ef v' W' := by
  have h1 := opd_sound hE hc
  have h2 := opd_sound hE hz
  simp only [iop] at hio
  split at hio
  · rename_i xs ys hx hy
    split at hio
    · rename_i hsz
      simp only [Option.map_eq_some_iff, Prod.mk.injEq] at hio
      obtain ⟨b, hb, rfl, rfl⟩ := hio
      rw [hx] at h1; rw [hy] at h2
      obtain ⟨xs', e1, h3⟩ := h1.inv_agg
      obtain ⟨ys', e2, h4⟩ := h2.inv_agg
      have hb' := eqsL_sound h3 h4 hb
      have hagg : isAggT G t = some true := by simp [isAggT, hu]
      have hx' : IsAt G xs' t 0 (.agg xs') := .inl ⟨hagg, i, hi, by
        have := h3.1; simp at this hsz
        rw [Nat.zero_add, ← hsz.1, this, Array.extract_size]⟩
      have hy' : IsAt G ys' t 0 (.agg ys') := .inl ⟨hagg, i, hi, by
        have := h4.1; simp at this hsz
        rw [Nat.zero_add, ← hsz.2, this, Array.extract_size]⟩
      have hrun : (Op.equal t (.agg xs') (.agg ys')).run G.P W = .ok b W := equalIn_sound xs' ys' 9 10000 (by decide) t 0 l b _ _ hl hb' hx' hy'
      have hgd : ∀ op, (eqGuard op t x z (.agg xs') (.agg ys')).run G.P W = .ok () W := fun op => by cases op <;> simp [eqGuard, hg]
      refine ⟨.bool (if neg then !b else b), W, .inl ?_, .pure hr (.bool _)⟩
      have hbe : binOp .eql t (.agg xs') (.agg ys') = (do pure (.bool (← Op.equal t (.agg xs') (.agg ys')))) := rfl
      have hbn : binOp .neq t (.agg xs') (.agg ys') = (do pure (.bool (!(← Op.equal t (.agg xs') (.agg ys'))))) := rfl
      cases neg
      · simp [execOp, e1, e2, hgd, hbe, hrun]
      · simp [execOp, e1, e2, hgd, hbn, hrun]
    · simp at hio
  · simp at hio
end
end Go.Proofs.Cp
