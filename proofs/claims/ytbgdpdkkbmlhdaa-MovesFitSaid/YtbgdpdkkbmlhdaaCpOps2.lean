/- The operations, one by one (2). -/
import Derived.Test.YtbgdpdkkbmlhdaaCpOps1
set_option linter.unusedSimpArgs false
set_option linter.unusedVariables false
namespace Go.Proofs.Cp
open Go Go.RowKit
section
variable {G : Ctx} {S : Inj} {base : Nat} {h : Heap} {W : World} {nt : Nat → Bool} {e : Env} {a : Act} {call : Calls_} {v : Value} {ef : Eff}
variable {dst : Option Tmp} {type : TypeId} {pos : String} {after : Array Edge} {guard : Option (Nat × Bool)}

/-! ### What a value looks like -/
theorem VR.inv_int {T : Nat → FuncId} {k : IntKind} {n : Int} {v' : Value} (h : VR T S (.int k n) v') : v' = .int k n := by cases h; rfl
theorem VR.inv_bool {T : Nat → FuncId} {b : Bool} {v' : Value} (h : VR T S (.bool b) v') : v' = .bool b := by cases h; rfl
theorem VR.inv_str {T : Nat → FuncId} {s : ByteArray} {v' : Value} (h : VR T S (.string s) v') : v' = .string s := by cases h; rfl
theorem VR.inv_ptr {T : Nat → FuncId} {p : Addr} {v' : Value} (h : VR T S (.pointer (some p)) v') : p.spot = none ∧ S.Has p.block ∧ v' = .pointer (some ((S.base p.block).add p.off)) := by
  cases h with | ptr b o h => exact ⟨rfl, h, rfl⟩
theorem VR.inv_nilP {T : Nat → FuncId} {v' : Value} (h : VR T S (.pointer none) v') : v' = .pointer none := by cases h; rfl
theorem VR.inv_nilS {T : Nat → FuncId} {l c : Nat} {v' : Value} (h : VR T S (.slice none l c) v') : l = 0 ∧ c = 0 ∧ v' = .slice none 0 0 := by cases h; exact ⟨rfl, rfl, rfl⟩
theorem VR.inv_slice {T : Nat → FuncId} {p : Addr} {l c : Nat} {v' : Value} (h : VR T S (.slice (some p) l c) v') : p.spot = none ∧ S.Has p.block ∧ l ≤ c ∧
    ∃ q c', v' = .slice (some ((S.base p.block).add q)) l c' ∧ c ≤ c' ∧ (c = 0 ∨ q = p.off) ∧ q + c' * S.esz p.block ≤ S.room p.block := by
  cases h with | slice b o p l c c' h h1 h2 h3 h4 => exact ⟨rfl, h, h1, p, c', rfl, h2, h3, h4⟩
theorem VR.inv_agg {T : Nat → FuncId} {cs : Array Value} {v' : Value} (h : VR T S (.agg cs) v') : ∃ cs', v' = .agg cs' ∧ VRs T S cs.toList cs'.toList := by
  cases h with | agg _ cs' hs h => exact ⟨cs', rfl, by simpa using hs, fun i v v' h1 h2 => h i v v' (by simpa using h1) (by simpa using h2)⟩
theorem VR.inv_tuple {T : Nat → FuncId} {cs : Array Value} {v' : Value} (h : VR T S (.tuple cs) v') : ∃ cs', v' = .tuple cs' ∧ VRs T S cs.toList cs'.toList := by
  cases h with | tuple _ cs' hs h => exact ⟨cs', rfl, by simpa using hs, fun i v v' h1 h2 => h i v v' (by simpa using h1) (by simpa using h2)⟩
theorem VR.inv_func {T : Nat → FuncId} {f : Nat} {fs cs : Array Value} {v' : Value} (h : VR T S (.func (.func f) fs cs) v') : fs = #[] ∧ ∃ cs', v' = .func (.func (T f)) #[] cs' ∧ VRs T S cs.toList cs'.toList := by
  cases h with | func _ _ cs' hs h => exact ⟨rfl, cs', rfl, by simpa using hs, fun i v v' h1 h2 => h i v v' (by simpa using h1) (by simpa using h2)⟩
theorem VR.inv_slice' {T : Nat → FuncId} {p : Option Addr} {l c : Nat} {v' : Value} (h : VR T S (.slice p l c) v') : ∃ p' c', v' = .slice p' l c' ∧ p'.isNone = p.isNone := by
  cases p with
  | none => obtain ⟨rfl, _, rfl⟩ := h.inv_nilS; exact ⟨none, 0, rfl, rfl⟩
  | some p => obtain ⟨_, _, _, q, c', rfl, _⟩ := h.inv_slice; exact ⟨_, c', rfl, rfl⟩
theorem VR.inv_ptr' {T : Nat → FuncId} {p : Option Addr} {v' : Value} (h : VR T S (.pointer p) v') : ∃ p', v' = .pointer p' ∧ p'.isNone = p.isNone := by
  cases p with
  | none => exact ⟨none, h.inv_nilP, rfl⟩
  | some p => obtain ⟨_, _, rfl⟩ := h.inv_ptr; exact ⟨_, rfl, rfl⟩
theorem VRs.get' {T : Nat → FuncId} {l l' : List Value} {i : Nat} {v : Value} (h : VRs T S l l') (hi : l[i]? = some v) : ∃ v', l'[i]? = some v' ∧ VR T S v v' := by
  have hl : i < l'.length := by rw [← h.1]; exact (List.getElem?_eq_some_iff.1 hi).1
  exact ⟨l'[i], List.getElem?_eq_getElem hl, h.2 i v _ hi (List.getElem?_eq_getElem hl)⟩

theorem does_buildSlice (hE : ER G.T S nt e a.tmps) (hr : HR G.T S base h W) {t el : TypeId} {i : TypeInfo} {n : Nat} {ps : Array (Nat × Operand)} {qs : List (Nat × Nat × Opd)} {zs : List Value} (hu : G.P.underlying t = some (.slice el)) (hi : G.P.info? el = some i)
    (hz : zeroOf G el = some zs) (hn : n * i.size ≤ 16777216) (hq : cParts G nt (fun j => some (j * i.size, i.size)) ps.toList = some qs) (hio : iop call (.buildSlice i.size n (zerosOf zs n) qs) e h = some (v, ef)) :
    ∃ v' W', Does G a ⟨dst, .buildSlice t n ps, type, pos, after, guard⟩ W v' W' ∧ After G.T S base h W v ef v' W' := by
  simp only [iop, Option.map_eq_some_iff, Prod.mk.injEq] at hio
  obtain ⟨cs, hf, rfl, rfl⟩ := hio
  obtain ⟨i2, z, hi2, hz0, rfl, hsz, hall, hrun⟩ := zero_run el hz
  rw [hi] at hi2; injection hi2 with hi2; subst hi2
  have hzl : (zerosOf z.cells.toList n) = ((Array.range (n * i.size)).map (z.cells[· % z.cells.size]!)).toList := by
    unfold zerosOf
    simp [hsz]
    intro j hj
    have hpos : 0 < z.cells.size := by
      rcases Nat.eq_zero_or_pos z.cells.size with h0 | h0
      · rw [← hsz, h0] at hj; simp at hj
      · exact h0
    rw [← hsz]
    have hlt := Nat.mod_lt j hpos
    simp [Array.getElem?_eq_getElem hlt, getElem!_pos, hlt]
  have hzv : VRs G.T S (zerosOf z.cells.toList n) ((Array.range (n * i.size)).map (z.cells[· % z.cells.size]!)).toList := by
    rw [← hzl]; exact zerosOf_sound hall n
  obtain ⟨cs', h1, h2⟩ := parts_sound hE hq hzv hf
  have hlen : cs.length = n * i.size := by
    have : ∀ (l : List (Nat × Nat × Value)) (c d : List Value), fill c l = some d → d.length = c.length := by
      intro l
      induction l with
      | nil => intro c d h; simp [fill] at h; rw [h]
      | cons p l ih =>
        intro c d h
        obtain ⟨o, s, u⟩ := p
        simp only [fill] at h
        split at h
        · rename_i hc; rw [ih _ _ h, put_length (by simp; omega)]
        · simp at h
    rw [this _ _ _ hf]; simp [zerosOf, hsz]
  have hcs : cs'.size = n * i.size := by have := h2.1; simp at this; omega
  have hA := After.box (base := base) hr h2 el i.size
  obtain ⟨S', hx, hn0, hv, hh, hb⟩ := hA
  refine ⟨.slice (some ⟨W.heap.size, 0, none⟩) n n, W.alloc (.cells cs' el), .inl ?_, ?_⟩
  · have hnn : ¬ (16777216 < n * i.size) := by omega
    simp only [execOp, Instr.buildSlice, Sem.run_bind, run_underlying hu, size_run el hi, Result.andThen]
    by_cases h0 : n * i.size = 0
    · have he : (Array.range (n * i.size)).map (z.cells[· % z.cells.size]!) = (Array.range (n * i.size)).map ((#[] : Array Value)[· % 0]!) := by simp [h0]
      rw [he] at h1
      have h1' : Instr.fill (fun i_1 => some (i_1 * i.size, i.size)) ((Array.range 0).map ((#[] : Array Value)[· % 0]!)) (List.map (fun p => (p.1, a.eval p.2)) ps.toList) = some cs' := by rw [← h0]; exact h1
      simp [h0, Array.toList_map]
      simp at h1'
      simp [h1', newRow]
    · have h1' : Instr.fill (fun i_1 => some (i_1 * i.size, i.size)) ((Array.range (n * i.size)).map (z.cells[· % z.cells.size]!)) (List.map (fun p => (p.1, a.eval p.2)) ps.toList) = some cs' := h1
      simp [hnn, h0, hrun, Array.toList_map, h1', newRow]
  · refine ⟨S.push ⟨W.heap.size, 0, none⟩ cs'.size i.size, S.push_ext _ _ _, by simp, ?_, ?_, (Below.refl _ _).alloc hr.bs _⟩
    · have := VR.slice (T := G.T) (S := S.push ⟨W.heap.size, 0, none⟩ cs'.size i.size) S.n 0 0 n n n (S.push_has _ _ _) (Nat.le_refl _) (Nat.le_refl _) (.inr rfl) (by rw [Inj.push_room, Inj.push_esz, hcs]; omega)
      rw [Inj.push_base, add_lit] at this
      rw [hr.len]; exact this
    · exact hr.new (room := cs'.size) (e := i.size) (xs := cs) (cs := cs') (t := el) (Nat.le_refl _) (by omega) (fun i v hi => by
        obtain ⟨v', a1, a2⟩ := h2.get' hi
        exact ⟨v', by simpa using a1, a2⟩)

theorem does_load1 (hE : ER G.T S nt e a.tmps) (hr : HR G.T S base h W) {x : Operand} {y : Opd} {t : TypeId} (hc : cOpd G nt x = some y) (hb : isAggT G t = some false) (hio : iop call (.load1 y) e h = some (v, ef)) :
    ∃ v' W', Does G a ⟨dst, .load t x, type, pos, after, guard⟩ W v' W' ∧ After G.T S base h W v ef v' W' := by
  simp only [iop] at hio
  split at hio
  · rename_i p hp
    simp only [Option.map_eq_some_iff, Prod.mk.injEq] at hio
    obtain ⟨u, hl, rfl, rfl⟩ := hio
    have h1 := opd_sound hE hc
    rw [hp] at h1
    obtain ⟨_, hbl, h2⟩ := h1.inv_ptr
    obtain ⟨_, v', h3, h4⟩ := ld1_read hr hbl hl
    refine ⟨v', W, .inl ?_, .pure hr h4⟩
    simp [execOp, h2, Instr.loadAt, Instr.sureAddr, loadVar, agg_run t hb, run_load, h3]
  · simp at hio

theorem does_loadN (hE : ER G.T S nt e a.tmps) (hr : HR G.T S base h W) {x : Operand} {y : Opd} {t : TypeId} {i : TypeInfo} (hc : cOpd G nt x = some y) (hb : isAggT G t = some true) (hi : G.P.info? t = some i) (hio : iop call (.loadN i.size y) e h = some (v, ef)) :
    ∃ v' W', Does G a ⟨dst, .load t x, type, pos, after, guard⟩ W v' W' ∧ After G.T S base h W v ef v' W' := by
  simp only [iop] at hio
  split at hio
  · rename_i p hp
    simp only [Option.map_eq_some_iff, Prod.mk.injEq] at hio
    obtain ⟨u, hl, rfl, rfl⟩ := hio
    have h1 := opd_sound hE hc
    rw [hp] at h1
    obtain ⟨_, hbl, h2⟩ := h1.inv_ptr
    obtain ⟨_, hlen, vs', h3, h4⟩ := ldN_read hr hbl hl
    have hrun := run_loadCells_list (P := G.P) W ((S.base p.block).add p.off) vs' h4
    rw [show vs'.length = i.size by rw [← h3.1]; exact hlen] at hrun
    refine ⟨.agg vs'.toArray, W, .inl ?_, .pure hr (VR.agg_mk h3)⟩
    simp [execOp, h2, Instr.loadAt, Instr.sureAddr, loadVar, agg_run t hb, size_run t hi, hrun]
  · simp at hio

theorem does_store (hE : ER G.T S nt e a.tmps) (hr : HR G.T S base h W) {x z : Operand} {y u : Opd} {t : TypeId} {i : TypeInfo} (hc : cOpd G nt x = some y) (hz : cOpd G nt z = some u) (hi : G.P.info? t = some i) (hio : iop call (.store i.size y u) e h = some (v, ef)) :
    ∃ v' W', Does G a ⟨dst, .store t x z, type, pos, after, guard⟩ W v' W' ∧ After G.T S base h W v ef v' W' := by
  simp only [iop] at hio
  split at hio
  · rename_i p hp
    split at hio
    · rename_i hsz
      simp only [Option.map_eq_some_iff, Prod.mk.injEq] at hio
      obtain ⟨h', hl, rfl, rfl⟩ := hio
      have h1 := opd_sound hE hc
      rw [hp] at h1
      obtain ⟨_, hbl, h2⟩ := h1.inv_ptr
      have h3 := (opd_sound hE hz).cells
      obtain ⟨_, W', hrun, hh, hb⟩ := hr.store (P := G.P) hbl hl h3
      have hs' : (a.eval z).cells.size = i.size := by have := h3.1; simp at this; omega
      refine ⟨Go.undef, W', .inr ⟨?_, rfl⟩, S, .refl _, fun _ => rfl, VR.undef, hh, hb⟩
      simp [execOp, h2, Instr.storeAt, Instr.sureAddr, storeVar, size_run t hi, hs', hrun]
    · simp at hio
  · simp at hio

theorem does_nilCheck (hE : ER G.T S nt e a.tmps) (hr : HR G.T S base h W) {x : Operand} {y : Opd} (hc : cOpd G nt x = some y) (hio : iop call (.nilCheck y) e h = some (v, ef)) :
    ∃ v' W', Does G a ⟨dst, .nilCheck x, type, pos, after, guard⟩ W v' W' ∧ After G.T S base h W v ef v' W' := by
  simp only [iop] at hio
  split at hio
  · rename_i p hp
    simp only [Option.some.injEq, Prod.mk.injEq] at hio
    obtain ⟨rfl, rfl⟩ := hio
    have h1 := opd_sound hE hc
    rw [hp] at h1
    obtain ⟨_, _, h2⟩ := h1.inv_ptr
    refine ⟨_, W, .inl ?_, .pure hr h1⟩
    simp [execOp, h2]
  · simp at hio

theorem does_bin (hE : ER G.T S nt e a.tmps) (hr : HR G.T S base h W) {x z : Operand} {y u : Opd} {t t2 : TypeId} {op : BinOp} (hc : cOpd G nt x = some y) (hz : cOpd G nt z = some u) (hio : iop call (.bin op y u) e h = some (v, ef)) :
    ∃ v' W', Does G a ⟨dst, .binOp op t x z t2, type, pos, after, guard⟩ W v' W' ∧ After G.T S base h W v ef v' W' := by
  simp only [iop, Option.map_eq_some_iff, Prod.mk.injEq] at hio
  obtain ⟨r, hb, rfl, rfl⟩ := hio
  have h1 := opd_sound hE hc
  have h2 := opd_sound hE hz
  unfold bin at hb
  split at hb
  · rename_i k m k' n hx hy
    rw [hx] at h1; rw [hy] at h2
    have e1 := h1.inv_int
    have e2 := h2.inv_int
    have hg : ∀ (op : BinOp) (x y : Operand), eqGuard op t x y (.int k m) (.int k' n) = pure () := fun op x y => by cases op <;> rfl
    have hrun : (binOp op t (.int k m) (.int k' n)).run G.P W = .ok r W ∧ VR G.T S r r := by
      split at hb
      · unfold shI at hb
        split at hb
        · simp at hb
        · rename_i hn
          simp at hb; subst hb
          exact ⟨by simp [binOp, Op.shift, hn], .int _ _⟩
      · unfold shI at hb
        split at hb
        · simp at hb
        · rename_i hn
          simp at hb; subst hb
          exact ⟨by simp [binOp, Op.shift, hn], .int _ _⟩
      · split at hb
        · rename_i hk
          subst hk
          cases op <;> simp [binI] at hb
          all_goals first
            | (subst hb; exact ⟨by simp [binOp, Op.intArith, Op.intBits, Op.intCmp], by constructor⟩)
            | (obtain ⟨hn, rfl⟩ := hb; exact ⟨by simp [binOp, Op.intDiv, hn], by constructor⟩)
            | contradiction
        · simp at hb
    refine ⟨r, W, .inl ?_, .pure hr hrun.2⟩
    simp [execOp, e1, e2, hg, hrun.1]
  · simp at hb
end
end Go.Proofs.Cp
