/- The operations, one by one (5): make, slices of slices, copy, clear, comparisons. -/
import Derived.Test.YtbgdpdkkbmlhdaaCpOps4
set_option linter.unusedSimpArgs false
set_option linter.unusedVariables false
namespace Go.Proofs.Cp
open Go Go.RowKit
section
variable {G : Ctx} {S : Inj} {base : Nat} {h : Heap} {W : World} {nt : Nat → Bool} {e : Env} {a : Act} {call : Calls_} {v : Value} {ef : Eff}
variable {dst : Option Tmp} {type : TypeId} {pos : String} {after : Array Edge} {guard : Option (Nat × Bool)}

theorem zerosN_eq (zs : List Value) (n : Nat) (hz : zs ≠ []) : zerosN zs n = (List.range (n * zs.length)).map fun i => zs.getD (i % zs.length) undef := by
  unfold zerosN
  split
  · rename_i z
    apply List.ext_getElem?
    intro i
    simp [List.getElem?_replicate]
    by_cases hi : i < n
    · simp [hi, Nat.mod_one]
    · simp [hi]
  · rfl
theorem zerosN_len (zs : List Value) (n : Nat) (hz : zs ≠ []) : (zerosN zs n).length = n * zs.length := by rw [zerosN_eq zs n hz]; simp
theorem zerosN_made (z : Array Value) (n : Nat) (hz : z.toList ≠ []) : zerosN z.toList n = ((Array.range (n * z.size)).map (z[· % z.size]!)).toList := by
  rw [zerosN_eq _ _ hz]
  have hpos : 0 < z.size := by
    rcases Nat.eq_zero_or_pos z.size with h0 | h0
    · exact absurd (by simpa using h0) hz
    · exact h0
  simp
  intro j hj
  have hlt := Nat.mod_lt j hpos
  simp [Array.getElem?_eq_getElem hlt, getElem!_pos, hlt]
theorem zerosN_sound {T : Nat → FuncId} {zs : List Value} (hall : zs.all (lf 0) = true) (n : Nat) (hz : zs ≠ []) : VRs T S (zerosN zs n) (zerosN zs n) := by
  rw [zerosN_eq zs n hz]
  exact zerosOf_sound (S := S) hall n

theorem does_mkSlice (hE : ER G.T S nt e a.tmps) (hr : HR G.T S base h W) {x z : Operand} {y u : Opd} {t el : TypeId} {i : TypeInfo} {zs : List Value} (hc : cOpd G nt x = some y) (hz : cOpd G nt z = some u) (hu : G.P.underlying t = some (.slice el)) (hi : G.P.info? el = some i)
    (hzs : zeroOf G el = some zs) (hne : zs ≠ []) (hio : iop call (.mkSlice i.size i.bytes zs y u) e h = some (v, ef)) :
    ∃ v' W', Does G a ⟨dst, .makeSlice t x z, type, pos, after, guard⟩ W v' W' ∧ After G.T S base h W v ef v' W' := by
  have h1 := opd_sound hE hc
  have h2 := opd_sound hE hz
  simp only [iop] at hio
  split at hio
  · rename_i k n k2 m hx hy
    rw [hx] at h1; rw [hy] at h2
    have e1 := h1.inv_int
    have e2 := h2.inv_int
    split at hio
    · rename_i hcond
      simp only [Option.some.injEq, Prod.mk.injEq] at hio
      obtain ⟨rfl, rfl⟩ := hio
      obtain ⟨i2, zv, hi2, hz0, rfl, hsz, hall, hrun⟩ := zero_run el hzs
      rw [hi] at hi2; injection hi2 with hi2; subst hi2
      have hrun := run_make (P := G.P) W t el i zv hu hi hz0 k k2 n m hcond.1 hcond.2.1 hcond.2.2.1 hcond.2.2.2
      have hmade : zerosN zv.cells.toList m.toNat = (madeCells zv.cells (m.toNat * i.size)).toList := by
        rw [zerosN_made _ _ hne, ← hsz]; rfl
      have hlen : (madeCells zv.cells (m.toNat * i.size)).size = m.toNat * i.size := size_madeCells _ _
      refine ⟨_, _, .inl (by simp [execOp, e1, e2, hrun]; exact ⟨rfl, rfl⟩), S.push ⟨W.heap.size, 0, none⟩ (m.toNat * i.size) i.size, S.push_ext _ _ _, by simp, ?_, ?_, (Below.refl _ _).alloc hr.bs _⟩
      · have := VR.slice (T := G.T) (S := S.push ⟨W.heap.size, 0, none⟩ (m.toNat * i.size) i.size) S.n 0 0 n.toNat m.toNat m.toNat (S.push_has _ _ _) (by omega) (Nat.le_refl _) (.inr rfl) (by rw [Inj.push_room, Inj.push_esz]; omega)
        rw [Inj.push_base, add_lit] at this
        rw [hr.len]; exact this
      · refine hr.new (room := m.toNat * i.size) (e := i.size) (by omega) (by rw [hmade]; simp [hlen]) (fun j v hj => ?_)
        have hv := (zerosN_sound (T := G.T) (S := S) hall m.toNat hne).get' hj
        obtain ⟨v', a1, a2⟩ := hv
        rw [hmade] at a1
        exact ⟨v', by simpa using a1, a2⟩
    · simp at hio
  · simp at hio

theorem does_slice (hE : ER G.T S nt e a.tmps) (hr : HR G.T S base h W) {x : Operand} {y : Opd} {lo hi : Option Operand} {lo' hi' : Option Opd} {t el : TypeId} {i : TypeInfo} (hc : cOpd G nt x = some y) (hlo : cOpdO G nt lo = some lo') (hhi : cOpdO G nt hi = some hi')
    (hu : G.P.underlying t = some (.slice el)) (hi0 : G.P.info? el = some i) (hio : iop call (.slice i.size y lo' hi') e h = some (v, ef)) :
    ∃ v' W', Does G a ⟨dst, .slice t x lo hi none, type, pos, after, guard⟩ W v' W' ∧ After G.T S base h W v ef v' W' := by
  have h1 := opd_sound hE hc
  simp only [iop] at hio
  split at hio
  · rename_i sa l c hx
    rw [hx] at h1
    simp only [Option.map_eq_some_iff, Prod.mk.injEq] at hio
    obtain ⟨r, hs, rfl, rfl⟩ := hio
    unfold sliceV at hs
    simp only [Option.bind_eq_some_iff] at hs
    obtain ⟨hh, hhe, ll, hle, hs⟩ := hs
    -- the bounds
    have hopt : ∀ {o : Option Operand} {o' : Option Opd}, cOpdO G nt o = some o' → (o = none ∧ o' = none) ∨ ∃ p q, o = some p ∧ o' = some q ∧ VR G.T S (ev e q) (a.eval p) := by
      intro o o' ho
      cases o with
      | none => simp [cOpdO] at ho; exact .inl ⟨rfl, ho.symm⟩
      | some p =>
        simp only [cOpdO, Option.map_eq_some_iff] at ho
        obtain ⟨q, hq, rfl⟩ := ho
        exact .inr ⟨p, q, rfl, rfl, opd_sound hE hq⟩
    have hH : (hi.map a.eval = none ∧ hh = l) ∨ ∃ k j, hi.map a.eval = some (.int k j) ∧ 0 ≤ j ∧ j ≤ c ∧ hh = j.toNat := by
      rcases hopt hhi with ⟨rfl, rfl⟩ | ⟨p, q, rfl, rfl, hv⟩
      · simp at hhe; exact .inl ⟨rfl, hhe.symm⟩
      · simp only [Option.map_some] at hhe ⊢
        split at hhe
        · rename_i hn; simp at hn
        · rename_i k j hj
          simp at hj
          split at hhe
          · rename_i hc2
            simp at hhe; subst hhe
            rw [hj] at hv
            rw [hv.inv_int]
            exact .inr ⟨k, j, rfl, hc2.1, hc2.2, rfl⟩
          · simp at hhe
        · simp at hhe
    have hL : (lo.map a.eval = none ∧ ll = 0) ∨ ∃ k j, lo.map a.eval = some (.int k j) ∧ 0 ≤ j ∧ j ≤ hh ∧ ll = j.toNat := by
      rcases hopt hlo with ⟨rfl, rfl⟩ | ⟨p, q, rfl, rfl, hv⟩
      · simp at hle; exact .inl ⟨rfl, hle.symm⟩
      · simp only [Option.map_some] at hle ⊢
        split at hle
        · rename_i hn; simp at hn
        · rename_i k j hj
          simp at hj
          split at hle
          · rename_i hc2
            simp at hle; subst hle
            rw [hj] at hv
            rw [hv.inv_int]
            exact .inr ⟨k, j, rfl, hc2.1, hc2.2, rfl⟩
          · simp at hle
        · simp at hle
    have hlh : ll ≤ hh := by
      rcases hL with ⟨_, h0⟩ | ⟨k, j, _, h0, h1, h2⟩ <;> omega
    have hhc : hh = l ∨ hh ≤ c := by
      rcases hH with ⟨_, h0⟩ | ⟨k, j, _, h0, h1, h2⟩
      · exact .inl h0
      · exact .inr (by omega)
    have hbounds : ∀ c', c ≤ c' → (Instr.sliceBounds true l c' (lo.map a.eval) (hi.map a.eval) none).run G.P W = .ok (ll, hh, c') W := by
      intro c' hcc
      unfold Instr.sliceBounds
      rcases hH with ⟨e3, h0⟩ | ⟨k, j, e3, h0, h1, h2⟩ <;> rcases hL with ⟨e4, h4⟩ | ⟨k2, j2, e4, h5, h6, h7⟩
      · simp [e3, e4, h0, h4]
      · subst h0; simp [e3, e4, h7, run_sliceBound W k2 j2 _ _ h5 h6]
      · simp [e3, e4, h2, h4, run_sliceBound W k j c' _ h0 (by omega)]
      · subst h2; simp [e3, e4, h7, run_sliceBound W k j c' _ h0 (by omega), run_sliceBound W k2 j2 _ _ h5 h6]
    cases sa with
    | none =>
      obtain ⟨rfl, rfl, e1⟩ := h1.inv_nilS
      have hb := hbounds 0 (Nat.le_refl _)
      have hh0 : hh = 0 := by omega
      subst hh0
      have hl0 : ll = 0 := by omega
      subst hl0
      simp only [Option.some.injEq] at hs
      subst hs
      refine ⟨.slice none 0 0, W, .inl ?_, .pure hr .nilS⟩
      simp [execOp, e1, Instr.sliceAt, Instr.slice, run_underlying hu, hb, size_run el hi0]
    | some sa =>
      obtain ⟨hsp, hbn, hlc, q, c', e1, hcc, hq, hfit⟩ := h1.inv_slice
      have hb := hbounds c' hcc
      have hhc' : hh ≤ c := by omega
      simp only at hs
      split at hs
      · rename_i hl0
        subst hl0
        simp only [Option.some.injEq] at hs
        subst hs
        refine ⟨.slice (some ((S.base sa.block).add q)) hh c', W, .inl ?_, .pure hr ?_⟩
        · simp [execOp, e1, Instr.sliceAt, Instr.slice, run_underlying hu, hb, size_run el hi0, Addr.add_zero']
        · exact .slice _ _ q _ _ _ hbn (by omega) (by omega) hq hfit
      · rename_i hl0
        split at hs
        · rename_i ro es xs hblk
          split at hs
          · rename_i hes
            simp only [Option.some.injEq] at hs
            subst hs
            have hes' : S.esz sa.block = i.size := by rw [(hr.cells _ _ _ _ hblk hbn.2).1]; exact hes
            by_cases hm : c' = ll
            · refine ⟨.slice (some ((S.base sa.block).add q)) (hh - ll) (c' - ll), W, .inl ?_, .pure hr ?_⟩
              · subst hm
                simp [execOp, e1, Instr.sliceAt, Instr.slice, run_underlying hu, hb, size_run el hi0]
              · have h0 : c - ll = 0 := by omega
                have h00 : hh - ll = 0 := by omega
                rw [h0, h00]
                refine .slice _ _ q _ _ _ hbn (by omega) (by omega) (.inl rfl) ?_
                have := Nat.mul_le_mul_right (S.esz sa.block) (show c' - ll ≤ c' by omega)
                omega
            · refine ⟨.slice (some (((S.base sa.block).add q).add (ll * i.size))) (hh - ll) (c' - ll), W, .inl ?_, .pure hr ?_⟩
              · simp [execOp, e1, Instr.sliceAt, Instr.slice, run_underlying hu, hb, size_run el hi0, hm]
              · rw [Addr.add_add]
                refine .slice _ _ (q + ll * i.size) _ _ _ hbn (by omega) (by omega) ?_ ?_
                · rcases hq with h0 | h0
                  · exact .inl (by omega)
                  · exact .inr (by omega)
                · rw [hes'] at hfit ⊢
                  have : ll * i.size + (c' - ll) * i.size = c' * i.size := by rw [← Nat.add_mul]; congr 1; omega
                  omega
          · simp at hs
        · simp at hs
  · simp at hio

theorem does_copy (hE : ER G.T S nt e a.tmps) (hr : HR G.T S base h W) {x z : Operand} {y u : Opd} {t t2 el : TypeId} {i : TypeInfo} (hc : cOpd G nt x = some y) (hz : cOpd G nt z = some u) (hu : G.P.underlying t = some (.slice el)) (hi : G.P.info? el = some i)
    (hio : iop call (.copy i.size y u) e h = some (v, ef)) :
    ∃ v' W', Does G a ⟨dst, .call ⟨.builtin .copy, #[x, z], #[t, t2]⟩, type, pos, after, guard⟩ W v' W' ∧ After G.T S base h W v ef v' W' := by
  have h1 := opd_sound hE hc
  have h2 := opd_sound hE hz
  simp only [iop] at hio
  generalize ev e y = sv at h1 hio
  generalize ev e u = xv at h2 hio
  suffices hsuff : ∃ v' W', (Builtin.copy_ #[t, t2] type #[a.eval x, a.eval z]).run G.P W = .ok v' W' ∧ After G.T S base h W v ef v' W' by
    obtain ⟨v', W', hrun, hA⟩ := hsuff
    exact ⟨v', W', .inl (by simp [execOp, resolve, invoke, builtin, hrun]), hA⟩
  unfold copyV at hio
  split at hio
  · rename_i da dl dc xa xl xc
    split at hio
    · rename_i h0
      simp only [Option.some.injEq, Prod.mk.injEq] at hio
      obtain ⟨rfl, rfl⟩ := hio
      obtain ⟨d', dc', e1, _⟩ := h1.inv_slice'
      obtain ⟨x', xc', e2, _⟩ := h2.inv_slice'
      refine ⟨.int .i64 0, W, ?_, .pure hr (.int _ _)⟩
      rw [e1, e2]
      have h0' : Nat.min xl dl = 0 := h0
      cases d' <;> cases x' <;> simp [Builtin.copy_, run_underlying hu, Builtin.lenOf, size_run el hi, Builtin.firstCells, h0, loadCells, loadCellsFrom, storeCells, goInt]
    · rename_i h0
      split at hio
      · rename_i da xa
        simp only [Option.bind_eq_some_iff, Option.map_eq_some_iff, Prod.mk.injEq] at hio
        obtain ⟨vs, hl, h', hst, rfl, rfl⟩ := hio
        obtain ⟨_, hb1, hlc1, q1, c1, e1, hcc1, hq1, _⟩ := h1.inv_slice
        obtain ⟨_, hb2, hlc2, q2, c2, e2, hcc2, hq2, _⟩ := h2.inv_slice
        have hq1' : q1 = da.off := by rcases hq1 with h | h <;> omega
        have hq2' : q2 = xa.off := by rcases hq2 with h | h <;> omega
        subst hq1'; subst hq2'
        obtain ⟨_, hlen, vs', h3, h4⟩ := ldN_read hr hb2 hl
        obtain ⟨_, W', hrun, hh, hbl⟩ := hr.store (P := G.P) hb1 hst h3
        have hl' : vs'.length = Nat.min xl dl * i.size := by rw [← h3.1]; exact hlen
        have hf := run_firstCells_some (P := G.P) W i.size (Nat.min xl dl) _ xl c2 vs' hl' h4
        refine ⟨_, W', ?_, S, .refl _, by simp, .int _ _, hh, hbl⟩
        rw [e1, e2]
        have hf' : (Builtin.firstCells i.size (min xl dl) (.slice (some ((S.base xa.block).add xa.off)) xl c2)).run G.P W = .ok vs'.toArray W := hf
        simp [Builtin.copy_, run_underlying hu, Builtin.lenOf, size_run el hi, hf', hrun, goInt]
      · simp at hio
  · simp at hio

theorem does_clear (hE : ER G.T S nt e a.tmps) (hr : HR G.T S base h W) {x : Operand} {y : Opd} {t el : TypeId} {zs : List Value} (hc : cOpd G nt x = some y) (hu : G.P.underlying t = some (.slice el)) (hz : zeroOf G el = some zs) (hne : zs ≠ [])
    (hio : iop call (.clear zs y) e h = some (v, ef)) :
    ∃ v' W', Does G a ⟨dst, .call ⟨.builtin .clear, #[x], #[t]⟩, type, pos, after, guard⟩ W v' W' ∧ After G.T S base h W v ef v' W' := by
  have h1 := opd_sound hE hc
  simp only [iop] at hio
  generalize ev e y = sv at h1 hio
  suffices hsuff : ∃ v' W', (Builtin.clear_ #[t] type #[a.eval x]).run G.P W = .ok v' W' ∧ After G.T S base h W v ef v' W' by
    obtain ⟨v', W', hrun, hA⟩ := hsuff
    exact ⟨v', W', .inl (by simp [execOp, resolve, invoke, builtin, hrun]), hA⟩
  obtain ⟨i, z, hi, hz0, rfl, hsz, hall, hrun0⟩ := zero_run el hz
  unfold clearV at hio
  split at hio
  · rename_i da n dc
    split at hio
    · rename_i h0
      simp only [Option.some.injEq, Prod.mk.injEq] at hio
      obtain ⟨rfl, rfl⟩ := hio
      obtain ⟨d', dc', e1, _⟩ := h1.inv_slice'
      refine ⟨.tuple #[], W, ?_, .pure hr (VR.tuple_mk .nil)⟩
      rw [e1, h0]
      cases d' <;> simp [Builtin.clear_, run_underlying hu]
    · rename_i h0
      split at hio
      · rename_i da
        simp only [Option.map_eq_some_iff, Prod.mk.injEq] at hio
        obtain ⟨h', hst, rfl, rfl⟩ := hio
        obtain ⟨_, hb1, hlc1, q1, c1, e1, hcc1, hq1, _⟩ := h1.inv_slice
        have hq1' : q1 = da.off := by rcases hq1 with h | h <;> omega
        subst hq1'
        obtain ⟨_, W', hrun, hh, hbl⟩ := hr.store (P := G.P) hb1 hst (zerosN_sound (T := G.T) (S := S) hall n hne)
        refine ⟨_, W', ?_, S, .refl _, by simp, VR.tuple_mk .nil, hh, hbl⟩
        rw [e1]
        have hmade : (Builtin.zeroCells z.cells n).toList = zerosN z.cells.toList n := by rw [zerosN_made _ _ hne]; rfl
        obtain ⟨m, rfl⟩ : ∃ m, n = m + 1 := ⟨n - 1, by omega⟩
        simp [Builtin.clear_, run_underlying hu, hrun0, hmade, hrun]
      · simp at hio
  · simp at hio
end
end Go.Proofs.Cp
