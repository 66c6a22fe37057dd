/- The operations, one by one (3). -/
import Derived.Test.YtbgdpdkkbmlhdaaCpOps2
set_option linter.unusedSimpArgs false
set_option linter.unusedVariables false
namespace Go.Proofs.Cp
open Go Go.RowKit
section
variable {G : Ctx} {S : Inj} {base : Nat} {h : Heap} {W : World} {nt : Nat → Bool} {e : Env} {a : Act} {call : Calls_} {v : Value} {ef : Eff}
variable {dst : Option Tmp} {type : TypeId} {pos : String} {after : Array Edge} {guard : Option (Nat × Bool)}

theorem does_un (hE : ER G.T S nt e a.tmps) (hr : HR G.T S base h W) {x : Operand} {y : Opd} {t : TypeId} {op : UnOp} (hc : cOpd G nt x = some y) (hio : iop call (.un op y) e h = some (v, ef)) :
    ∃ v' W', Does G a ⟨dst, .unOp op t x, type, pos, after, guard⟩ W v' W' ∧ After G.T S base h W v ef v' W' := by
  simp only [iop, Option.map_eq_some_iff, Prod.mk.injEq] at hio
  obtain ⟨r, hb, rfl, rfl⟩ := hio
  have h1 := opd_sound hE hc
  unfold unV at hb
  split at hb
  · rename_i k n hx
    rw [hx] at h1
    have e1 := h1.inv_int
    simp at hb; subst hb
    exact ⟨_, W, .inl (by simp [execOp, e1, Op.unary, Op.intArith]), .pure hr (.int _ _)⟩
  · rename_i b hx
    rw [hx] at h1
    have e1 := h1.inv_bool
    simp at hb; subst hb
    exact ⟨_, W, .inl (by simp [execOp, e1, Op.unary]), .pure hr (.bool _)⟩
  · rename_i k n hx
    rw [hx] at h1
    have e1 := h1.inv_int
    simp only [Option.some.injEq] at hb; subst hb
    exact ⟨_, W, .inl (by simp [execOp, e1, Op.unary, Op.intBits]), .pure hr (.int _ _)⟩
  · simp at hb

theorem does_conv (hE : ER G.T S nt e a.tmps) (hr : HR G.T S base h W) {x : Operand} {y : Opd} {s d : TypeId} {ds : TypeDesc} {k : IntKind} (hc : cOpd G nt x = some y) (hs : G.P.underlying s = some ds) (hd : G.P.underlying d = some (.int k)) (hio : iop call (.conv k y) e h = some (v, ef)) :
    ∃ v' W', Does G a ⟨dst, .convert s d x, type, pos, after, guard⟩ W v' W' ∧ After G.T S base h W v ef v' W' := by
  simp only [iop] at hio
  split at hio
  · rename_i k' n hx
    simp only [Option.some.injEq, Prod.mk.injEq] at hio
    obtain ⟨rfl, rfl⟩ := hio
    have h1 := opd_sound hE hc
    rw [hx] at h1
    have e1 := h1.inv_int
    exact ⟨_, W, .inl (by simp [execOp, e1, convert, run_underlying hs, run_underlying hd, Conv.intToInt]), .pure hr (.int _ _)⟩
  · simp at hio

theorem does_mkFunc (hE : ER G.T S nt e a.tmps) (hr : HR G.T S base h W) {f : FuncId} {c : Nat} {cs : Array Operand} {ys : List Opd} (hf : G.T c = f) (hc : cOpds G nt cs.toList = some ys) (hio : iop call (.mkFunc c ys) e h = some (v, ef)) :
    ∃ v' W', Does G a ⟨dst, .makeFunc (.func f) #[] cs, type, pos, after, guard⟩ W v' W' ∧ After G.T S base h W v ef v' W' := by
  simp only [iop, Option.some.injEq, Prod.mk.injEq] at hio
  obtain ⟨rfl, rfl⟩ := hio
  have h1 := opds_sound hE hc
  refine ⟨.func (.func f) #[] (cs.map a.eval), W, .inl (by simp [execOp, Instr.makeFunc]), .pure hr ?_⟩
  have := VR.func_mk (f := c) h1
  rw [hf] at this
  have hm : cs.map a.eval = (cs.toList.map a.eval).toArray := by apply Array.ext'; simp
  rw [hm]; exact this

theorem does_fieldAddr (hE : ER G.T S nt e a.tmps) (hr : HR G.T S base h W) {x : Operand} {y : Opd} {t : TypeId} {fs : Array Field} {i : Nat} {f : Field} {j : TypeInfo} (hc : cOpd G nt x = some y) (hu : G.P.underlying t = some (.struct fs)) (hf : fs[i]? = some f)
    (hj : G.P.info? f.type = some j) (h0 : ¬ j.size = 0) (hio : iop call (.fieldAddr f.offset y) e h = some (v, ef)) :
    ∃ v' W', Does G a ⟨dst, .fieldAddr t x i, type, pos, after, guard⟩ W v' W' ∧ After G.T S base h W v ef v' W' := by
  simp only [iop] at hio
  split at hio
  · rename_i p hx
    simp only [Option.some.injEq, Prod.mk.injEq] at hio
    obtain ⟨rfl, rfl⟩ := hio
    have h1 := opd_sound hE hc
    rw [hx] at h1
    obtain ⟨_, hb, e1⟩ := h1.inv_ptr
    refine ⟨.pointer (some (((S.base p.block).add p.off).add f.offset)), W, .inl ?_, .pure hr ?_⟩
    · simp [execOp, e1, Instr.fieldAt, run_underlying hu, hf, Instr.sureAddr, fieldPlace, size_run f.type hj, h0]
    · rw [Addr.add_add]; exact .ptr _ _ hb
  · simp at hio

theorem part_run (t : TypeId) (cs : Array Value) (off : Nat) (hb : isAggT G t = some false) {v : Value} (hv : cs[off]? = some v) : (part t cs off).run G.P W = .ok v W := by
  simp [part, agg_run t hb, hv]
theorem does_field1 (hE : ER G.T S nt e a.tmps) (hr : HR G.T S base h W) {x : Operand} {y : Opd} {t : TypeId} {fs : Array Field} {i : Nat} {f : Field} (hc : cOpd G nt x = some y) (hu : G.P.underlying t = some (.struct fs)) (hf : fs[i]? = some f)
    (hb : isAggT G f.type = some false) (hio : iop call (.field1 f.offset y) e h = some (v, ef)) :
    ∃ v' W', Does G a ⟨dst, .field t x i, type, pos, after, guard⟩ W v' W' ∧ After G.T S base h W v ef v' W' := by
  simp only [iop] at hio
  split at hio
  · rename_i cs hx
    simp only [Option.map_eq_some_iff, Prod.mk.injEq] at hio
    obtain ⟨u, hl, rfl, rfl⟩ := hio
    have h1 := opd_sound hE hc
    rw [hx] at h1
    obtain ⟨cs', e1, h2⟩ := h1.inv_agg
    obtain ⟨u', h3, h4⟩ := h2.get' hl
    refine ⟨u', W, .inl ?_, .pure hr h4⟩
    simp [execOp, e1, Instr.field, run_underlying hu, hf, asAgg, part_run f.type cs' f.offset hb (show cs'[f.offset]? = some u' by simpa using h3)]
  · simp at hio
theorem does_fieldN (hE : ER G.T S nt e a.tmps) (hr : HR G.T S base h W) {x : Operand} {y : Opd} {t : TypeId} {fs : Array Field} {i : Nat} {f : Field} {j : TypeInfo} (hc : cOpd G nt x = some y) (hu : G.P.underlying t = some (.struct fs)) (hf : fs[i]? = some f)
    (hb : isAggT G f.type = some true) (hj : G.P.info? f.type = some j) (hio : iop call (.fieldN f.offset j.size y) e h = some (v, ef)) :
    ∃ v' W', Does G a ⟨dst, .field t x i, type, pos, after, guard⟩ W v' W' ∧ After G.T S base h W v ef v' W' := by
  simp only [iop] at hio
  split at hio
  · rename_i cs hx
    split at hio
    · simp only [Option.some.injEq, Prod.mk.injEq] at hio
      obtain ⟨rfl, rfl⟩ := hio
      have h1 := opd_sound hE hc
      rw [hx] at h1
      obtain ⟨cs', e1, h2⟩ := h1.inv_agg
      refine ⟨.agg ((cs'.toList.drop f.offset).take j.size).toArray, W, .inl ?_, .pure hr (VR.agg_mk ((h2.drop _).take _))⟩
      have hex : cs'.extract f.offset (f.offset + j.size) = ((cs'.toList.drop f.offset).take j.size).toArray := by
        apply Array.ext'
        simp [Array.toList_extract, List.extract_eq_take_drop]
      simp [execOp, e1, Instr.field, run_underlying hu, hf, asAgg, part, agg_run f.type hb, size_run f.type hj, hex]
    · simp at hio
  · simp at hio

theorem does_extract (hE : ER G.T S nt e a.tmps) (hr : HR G.T S base h W) {x : Operand} {y : Opd} {i : Nat} (hc : cOpd G nt x = some y) (hio : iop call (.extract y i) e h = some (v, ef)) :
    ∃ v' W', Does G a ⟨dst, .extract x i, type, pos, after, guard⟩ W v' W' ∧ After G.T S base h W v ef v' W' := by
  simp only [iop] at hio
  split at hio
  · rename_i cs hx
    simp only [Option.map_eq_some_iff, Prod.mk.injEq] at hio
    obtain ⟨u, hl, rfl, rfl⟩ := hio
    have h1 := opd_sound hE hc
    rw [hx] at h1
    obtain ⟨cs', e1, h2⟩ := h1.inv_tuple
    obtain ⟨u', h3, h4⟩ := h2.get' hl
    have h3' : cs'[i]? = some u' := by simpa using h3
    refine ⟨u', W, .inl ?_, .pure hr h4⟩
    simp [execOp, e1, Instr.extract, h3']
  · simp at hio

theorem does_len (hE : ER G.T S nt e a.tmps) (hr : HR G.T S base h W) {x : Operand} {y : Opd} {t el : TypeId} (hc : cOpd G nt x = some y) (hu : G.P.underlying t = some (.slice el)) (hio : iop call (.len y) e h = some (v, ef)) :
    ∃ v' W', Does G a ⟨dst, .call ⟨.builtin .len, #[x], #[t]⟩, type, pos, after, guard⟩ W v' W' ∧ After G.T S base h W v ef v' W' := by
  simp only [iop] at hio
  split at hio
  · rename_i p n c hx
    simp only [Option.some.injEq, Prod.mk.injEq] at hio
    obtain ⟨rfl, rfl⟩ := hio
    have h1 := opd_sound hE hc
    rw [hx] at h1
    obtain ⟨p', c', e1, _⟩ := h1.inv_slice'
    refine ⟨.int .i64 n, W, .inl ?_, .pure hr (.int _ _)⟩
    simp [execOp, resolve, invoke, builtin, e1, Builtin.len_, run_underlying hu, goInt]
  · simp at hio

theorem does_idxAddr (hE : ER G.T S nt e a.tmps) (hr : HR G.T S base h W) {x z : Operand} {y u : Opd} {t el : TypeId} {j : TypeInfo} (hc : cOpd G nt x = some y) (hz : cOpd G nt z = some u) (hu : G.P.underlying t = some (.slice el)) (hj : G.P.info? el = some j) (hio : iop call (.idxAddr j.size y u) e h = some (v, ef)) :
    ∃ v' W', Does G a ⟨dst, .indexAddr t x z, type, pos, after, guard⟩ W v' W' ∧ After G.T S base h W v ef v' W' := by
  simp only [iop] at hio
  split at hio
  · rename_i p l c k n hx hy
    split at hio
    · rename_i hcond
      simp only [Option.some.injEq, Prod.mk.injEq] at hio
      obtain ⟨rfl, rfl⟩ := hio
      have h1 := opd_sound hE hc
      have h2 := opd_sound hE hz
      rw [hx] at h1; rw [hy] at h2
      obtain ⟨_, hb, hlc, q, c', e1, hcc, hq, _⟩ := h1.inv_slice
      have e2 := h2.inv_int
      have hq' : q = p.off := by rcases hq with h0 | h0 <;> omega
      subst hq'
      refine ⟨.pointer (some (((S.base p.block).add p.off).add (n.toNat * j.size))), W, .inl ?_, .pure hr ?_⟩
      · simp [execOp, e1, e2, Instr.indexAt, run_underlying hu, asIntOf, hcond, size_run el hj]
      · rw [Addr.add_add]; exact .ptr _ _ hb
    · simp at hio
  · simp at hio
theorem does_idxAddrA (hE : ER G.T S nt e a.tmps) (hr : HR G.T S base h W) {x z : Operand} {y u : Opd} {t el : TypeId} {len : Nat} {j : TypeInfo} (hc : cOpd G nt x = some y) (hz : cOpd G nt z = some u) (hu : G.P.underlying t = some (.array len el)) (hj : G.P.info? el = some j) (hio : iop call (.idxAddrA len j.size y u) e h = some (v, ef)) :
    ∃ v' W', Does G a ⟨dst, .indexAddr t x z, type, pos, after, guard⟩ W v' W' ∧ After G.T S base h W v ef v' W' := by
  simp only [iop] at hio
  split at hio
  · rename_i p k n hx hy
    split at hio
    · rename_i hcond
      simp only [Option.some.injEq, Prod.mk.injEq] at hio
      obtain ⟨rfl, rfl⟩ := hio
      have h1 := opd_sound hE hc
      have h2 := opd_sound hE hz
      rw [hx] at h1; rw [hy] at h2
      obtain ⟨_, hb, e1⟩ := h1.inv_ptr
      have e2 := h2.inv_int
      refine ⟨.pointer (some (((S.base p.block).add p.off).add (n.toNat * j.size))), W, .inl ?_, .pure hr ?_⟩
      · simp [execOp, e1, e2, Instr.indexAt, Instr.sureAddr, run_underlying hu, asIntOf, hcond, size_run el hj]
      · rw [Addr.add_add]; exact .ptr _ _ hb
    · simp at hio
  · simp at hio
theorem does_idx1 (hE : ER G.T S nt e a.tmps) (hr : HR G.T S base h W) {x z : Operand} {y u : Opd} {t el : TypeId} {len : Nat} {j : TypeInfo} (hc : cOpd G nt x = some y) (hz : cOpd G nt z = some u) (hu : G.P.underlying t = some (.array len el)) (hb : isAggT G el = some false) (hj : G.P.info? el = some j) (h1s : j.size = 1)
    (hio : iop call (.idx1 len y u) e h = some (v, ef)) :
    ∃ v' W', Does G a ⟨dst, .index t x z, type, pos, after, guard⟩ W v' W' ∧ After G.T S base h W v ef v' W' := by
  simp only [iop] at hio
  split at hio
  · rename_i cs k n hx hy
    split at hio
    · rename_i hcond
      simp only [Option.map_eq_some_iff, Prod.mk.injEq] at hio
      obtain ⟨w, hl, rfl, rfl⟩ := hio
      have h1 := opd_sound hE hc
      have h2 := opd_sound hE hz
      rw [hx] at h1; rw [hy] at h2
      obtain ⟨cs', e1, h3⟩ := h1.inv_agg
      have e2 := h2.inv_int
      obtain ⟨u', h4, h5⟩ := h3.get' hl
      refine ⟨u', W, .inl ?_, .pure hr h5⟩
      simp [execOp, e1, e2, Instr.index, run_underlying hu, asIntOf, hcond, size_run el hj, h1s, part_run el cs' n.toNat hb (show cs'[n.toNat]? = some u' by simpa using h4)]
    · simp at hio
  · simp at hio
theorem does_idxS (hE : ER G.T S nt e a.tmps) (hr : HR G.T S base h W) {x z : Operand} {y u : Opd} {t : TypeId} (hc : cOpd G nt x = some y) (hz : cOpd G nt z = some u) (hu : G.P.underlying t = some .string) (hio : iop call (.idxS y u) e h = some (v, ef)) :
    ∃ v' W', Does G a ⟨dst, .index t x z, type, pos, after, guard⟩ W v' W' ∧ After G.T S base h W v ef v' W' := by
  simp only [iop] at hio
  split at hio
  · rename_i s k n hx hy
    split at hio
    · rename_i hcond
      simp only [Option.map_eq_some_iff, Prod.mk.injEq] at hio
      obtain ⟨w, hl, rfl, rfl⟩ := hio
      have h1 := opd_sound hE hc
      have h2 := opd_sound hE hz
      rw [hx] at h1; rw [hy] at h2
      have e1 := h1.inv_str
      have e2 := h2.inv_int
      refine ⟨_, W, .inl ?_, .pure hr (.int _ _)⟩
      simp [execOp, e1, e2, Instr.index, run_underlying hu, asIntOf, hcond, hl]
    · simp at hio
  · simp at hio

theorem mm_sound {mx : Bool} : ∀ {ys ys' : List Value} {x x' r : Value}, VR G.T S x x' → VRs G.T S ys ys' → mmL mx x ys = some r →
    ∃ r', (ys'.foldlM (if mx then Builtin.max2 else Builtin.min2) x').run G.P W = .ok r' W ∧ VR G.T S r r'
  | [], ys', x, x', r, hx, hy, hm => by
    simp [mmL] at hm; subst hm
    have : ys' = [] := List.eq_nil_of_length_eq_zero (by have := hy.1; simpa using this.symm)
    subst this
    exact ⟨x', by simp, hx⟩
  | y :: ys, [], x, x', r, hx, hy, hm => by have := hy.1; simp at this
  | y :: ys, y' :: ys', x, x', r, hx, hy, hm => by
    simp only [mmL, Option.bind_eq_some_iff] at hm
    obtain ⟨u, h1, h2⟩ := hm
    have h3 : ∃ k m k' n, x = .int k m ∧ y = .int k' n ∧ u = .int k (if mx then (if n > m then n else m) else (if n < m then n else m)) := by
      unfold mm at h1
      split at h1
      · rename_i k m k' n
        simp at h1
        exact ⟨k, m, k', n, rfl, rfl, h1.symm⟩
      · simp at h1
    obtain ⟨k, m, k', n, rfl, rfl, rfl⟩ := h3
    have e1 := hx.inv_int
    have e2 := hy.head.inv_int
    subst e1; subst e2
    obtain ⟨r', h4, h5⟩ := mm_sound (mx := mx) (VR.int (T := G.T) (S := S) k _) hy.tail h2
    refine ⟨r', ?_, h5⟩
    cases mx
    · simp only [List.foldlM_cons, Sem.run_bind, Builtin.min2, Bool.false_eq_true, ↓reduceIte] at h4 ⊢
      simp [Result.andThen]
      exact h4
    · simp only [List.foldlM_cons, Sem.run_bind, Builtin.max2, ↓reduceIte] at h4 ⊢
      simp [Result.andThen]
      exact h4
theorem does_minmax (hE : ER G.T S nt e a.tmps) (hr : HR G.T S base h W) {mx : Bool} {as : Array Operand} {ts : Array TypeId} {y : Opd} {ys : List Opd} (hc : cOpds G nt as.toList = some (y :: ys)) (hio : iop call (.minmax mx y ys) e h = some (v, ef)) :
    ∃ v' W', Does G a ⟨dst, .call ⟨.builtin (if mx then .max else .min), as, ts⟩, type, pos, after, guard⟩ W v' W' ∧ After G.T S base h W v ef v' W' := by
  simp only [iop, Option.map_eq_some_iff, Prod.mk.injEq] at hio
  obtain ⟨r, hm, rfl, rfl⟩ := hio
  have h1 := opds_sound hE hc
  cases has : as.toList with
  | nil => rw [has] at hc; simp [cOpds] at hc
  | cons x xs =>
    rw [has] at h1
    simp only [List.map_cons] at h1
    obtain ⟨r', h2, h3⟩ := mm_sound (W := W) h1.head h1.tail hm
    refine ⟨r', W, .inl ?_, .pure hr h3⟩
    have hmap : (as.map a.eval).toList = a.eval x :: xs.map a.eval := by simp [has]
    cases mx
    · simp only [Bool.false_eq_true, ↓reduceIte] at h2 ⊢
      simp [execOp, resolve, invoke, builtin, Builtin.min_, has, h2]
    · simp only [↓reduceIte] at h2 ⊢
      simp [execOp, resolve, invoke, builtin, Builtin.max_, has, h2]
end
end Go.Proofs.Cp
