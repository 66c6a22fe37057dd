/- The operations, one by one: those that make no call. -/
import Derived.Test.YtbgdpdkkbmlhdaaCpOps
set_option linter.unusedSimpArgs false
set_option linter.unusedVariables false
namespace Go.Proofs.Cp
open Go Go.RowKit

/-- An operation of the model that is no call comes to v'. -/
def Does (G : Ctx) (a : Act) (o : Oper) (W : World) (v' : Value) (W' : World) : Prop :=
  (execOp a.eval o).run G.P W = .ok (.value v') W' ∨ ((execOp a.eval o).run G.P W = .ok .skip W' ∧ v' = undef)

section
variable {G : Ctx} {S : Inj} {base : Nat} {h : Heap} {W : World} {nt : Nat → Bool} {e : Env} {a : Act} {call : Calls_} {v : Value} {ef : Eff}
variable {dst : Option Tmp} {type : TypeId} {pos : String} {after : Array Edge} {guard : Option (Nat × Bool)}

theorem does_move (hE : ER G.T S nt e a.tmps) (hr : HR G.T S base h W) {x : Operand} {y : Opd} (hc : cOpd G nt x = some y) (hio : iop call (.move y) e h = some (v, ef)) {op : Op} (hop : op = .move x ∨ op = .assign x) :
    ∃ v' W', Does G a ⟨dst, op, type, pos, after, guard⟩ W v' W' ∧ After G.T S base h W v ef v' W' := by
  simp only [iop, Option.some.injEq, Prod.mk.injEq] at hio
  obtain ⟨rfl, rfl⟩ := hio
  refine ⟨a.eval x, W, .inl ?_, .pure hr (opd_sound hE hc)⟩
  rcases hop with rfl | rfl <;> simp [execOp]

theorem does_pick (hE : ER G.T S nt e a.tmps) (hr : HR G.T S base h W) {c x y : Operand} {c' x' y' : Opd} (hc : cOpd G nt c = some c') (hx : cOpd G nt x = some x') (hy : cOpd G nt y = some y')
    (hio : iop call (.pick c' x' y') e h = some (v, ef)) : ∃ v' W', Does G a ⟨dst, .pick c x y, type, pos, after, guard⟩ W v' W' ∧ After G.T S base h W v ef v' W' := by
  simp only [iop] at hio
  split at hio
  · rename_i t ht
    simp only [Option.some.injEq, Prod.mk.injEq] at hio
    obtain ⟨rfl, rfl⟩ := hio
    have h1 := opd_sound hE hc
    rw [ht] at h1
    have h2 : a.eval c = .bool t := by generalize a.eval c = z at h1; cases h1; rfl
    refine ⟨if t then a.eval x else a.eval y, W, .inl ?_, .pure hr ?_⟩
    · simp [execOp, h2, asBool]
    · cases t
      · exact opd_sound hE hy
      · exact opd_sound hE hx
  · simp at hio

/-- A new block of the cells of a value. -/
theorem After.box (hr : HR G.T S base h W) {xs : List Value} {cs : Array Value} (hv : VRs G.T S xs cs.toList) (t e : Nat) :
    After G.T S base h W (.pointer (some ⟨h.length, 0, none⟩)) (some (h ++ [.cells false e xs], [])) (.pointer (some ⟨W.heap.size, 0, none⟩)) (W.alloc (.cells cs t)) := by
  have hn := hr.new (room := cs.size) (e := e) (xs := xs) (cs := cs) (t := t) (Nat.le_refl _) (by rw [hv.1]; simp) (fun i v hi => by
    have hl : i < cs.toList.length := by rw [← hv.1]; exact (List.getElem?_eq_some_iff.1 hi).1
    exact ⟨cs.toList[i], by simp, hv.2 i v _ hi (List.getElem?_eq_getElem hl)⟩)
  refine ⟨_, S.push_ext _ _ _, by simp, ?_, hn, (Below.refl _ _).alloc hr.bs _⟩
  have := VR.ptr (T := G.T) (S := S.push ⟨W.heap.size, 0, none⟩ cs.size e) S.n 0 (S.push_has _ _ _)
  rw [Inj.push_base, add_lit] at this
  rw [hr.len]; exact this

theorem does_box (hE : ER G.T S nt e a.tmps) (hr : HR G.T S base h W) {x : Operand} {y : Opd} {t : TypeId} (hc : cOpd G nt x = some y) (hio : iop call (.box y) e h = some (v, ef)) :
    ∃ v' W', Does G a ⟨dst, .box t x, type, pos, after, guard⟩ W v' W' ∧ After G.T S base h W v ef v' W' := by
  simp only [iop, Option.some.injEq, Prod.mk.injEq] at hio
  obtain ⟨rfl, rfl⟩ := hio
  exact ⟨_, _, .inl (by simp [execOp, Instr.box, newVar, newRow]), After.box hr (opd_sound hE hc).cells t 0⟩

theorem does_alloc (hr : HR G.T S base h W) {t : TypeId} {zs : List Value} (hz : zeroOf G t = some zs) (hio : iop call (.alloc zs) e h = some (v, ef)) :
    ∃ v' W', Does G a ⟨dst, .alloc t, type, pos, after, guard⟩ W v' W' ∧ After G.T S base h W v ef v' W' := by
  simp only [iop, Option.some.injEq, Prod.mk.injEq] at hio
  obtain ⟨rfl, rfl⟩ := hio
  obtain ⟨i, z, hi, hz0, rfl, hsz, hall, hrun⟩ := zero_run t hz
  refine ⟨_, _, .inl ?_, After.box hr (lfs_self hall) t 0⟩
  simp [execOp, Instr.alloc, newVar, newRow, hrun]

theorem parts_sound (hE : ER G.T S nt e a.tmps) {place : Nat → Option (Nat × Nat)} : ∀ {ps : List (Nat × Operand)} {qs : List (Nat × Nat × Opd)}, cParts G nt place ps = some qs →
    ∀ {zs : List Value} {zs' : Array Value} {cs : List Value}, VRs G.T S zs zs'.toList → fill zs (evPs e qs) = some cs →
      ∃ cs', Instr.fill place zs' (ps.map fun p => (p.1, a.eval p.2)) = some cs' ∧ VRs G.T S cs cs'.toList
  | [], qs, hq, zs, zs', cs, hv, hf => by
    simp [cParts] at hq; subst hq
    simp [evPs, fill] at hf; subst hf
    exact ⟨zs', rfl, hv⟩
  | (i, x) :: ps, qs, hq, zs, zs', cs, hv, hf => by
    simp only [cParts, Option.bind_eq_some_iff, Option.map_eq_some_iff] at hq
    obtain ⟨pl, h1, y, h2, qs', h3, rfl⟩ := hq
    simp only [evPs, List.map_cons, fill] at hf
    split at hf
    · rename_i hcond
      have hx := (opd_sound hE h2).cells
      have hlen : (a.eval x).cells.size = pl.2 := by have := hx.1; simp at this; omega
      have hzl := hv.1
      have hstep : VRs G.T S (put zs pl.1 (ev e y).cells.toList) ((a.eval x).cells.zipIdx.foldl (fun cs cj => cs.setIfInBounds (pl.1 + cj.2) cj.1) zs').toList := by
        have key : ∀ (l : List Value) (k : Nat) (c : Array Value), pl.1 + k + l.length ≤ c.size →
            ((l.zipIdx k).foldl (fun cs cj => cs.setIfInBounds (pl.1 + cj.2) cj.1) c).toList = put c.toList (pl.1 + k) l := by
          intro l
          induction l with
          | nil => intro k c hk; simp [put]
          | cons u l ih =>
            intro k c hk
            simp only [List.zipIdx_cons, List.foldl_cons]
            rw [ih (k + 1) _ (by simp at hk ⊢; omega)]
            apply List.ext_getElem?
            intro j
            rw [put_get (by simp at hk ⊢; omega), put_get (by simp at hk ⊢; omega)]
            simp only [Array.toList_setIfInBounds, List.getElem?_set, List.length_cons, Array.length_toList]
            by_cases hj : j = pl.1 + k
            · subst hj
              rw [if_neg (by omega), if_pos rfl, if_pos (by simp at hk; omega), if_pos (by omega)]
              simp
            · by_cases hj2 : pl.1 + (k + 1) ≤ j ∧ j < pl.1 + (k + 1) + l.length
              · rw [if_pos hj2, if_pos (by omega)]
                obtain ⟨m, hm⟩ : ∃ m, j - (pl.1 + k) = m + 1 := ⟨j - (pl.1 + k) - 1, by omega⟩
                rw [hm, List.getElem?_cons_succ]; congr 1; omega
              · rw [if_neg hj2, if_neg (by omega), if_neg (by omega)]
        have hk := key (a.eval x).cells.toList 0 zs' (by simp at hcond hzl ⊢; omega)
        rw [Nat.add_zero] at hk
        have he : (a.eval x).cells.zipIdx.foldl (fun cs cj => cs.setIfInBounds (pl.1 + cj.2) cj.1) zs' = ((a.eval x).cells.toList.zipIdx 0).foldl (fun cs cj => cs.setIfInBounds (pl.1 + cj.2) cj.1) zs' := by
          rw [← Array.foldl_toList]; simp
        rw [he, hk]
        unfold put
        have hl := hx.1
        rw [hl]
        exact ((hv.take _).append hx).append (hv.drop _)
      obtain ⟨cs', h4, h5⟩ := parts_sound hE h3 hstep hf
      refine ⟨cs', ?_, h5⟩
      simp only [List.map_cons, Instr.fill, h1]
      rw [if_neg (by simp at hcond hzl ⊢; omega)]
      exact h4
    · simp at hf

theorem zerosOf_sound {T : Nat → FuncId} {zs : List Value} (hall : zs.all (lf 0) = true) (n : Nat) : VRs T S (zerosOf zs n) (zerosOf zs n) := by
  unfold zerosOf
  refine VRs.map fun i _ => ?_
  rw [List.getD_eq_getElem?_getD]
  cases hx : zs[i % zs.length]? with
  | none => exact VR.undef
  | some x => exact lf_self (all_get hall hx)

theorem does_build (hE : ER G.T S nt e a.tmps) (hr : HR G.T S base h W) {t : TypeId} {ps : Array (Nat × Operand)} {qs : List (Nat × Nat × Opd)} {zs : List Value} (hk : fieldsKnown G t = true) (hz : zeroOf G t = some zs)
    (hq : cParts G nt (placeOf G t) ps.toList = some qs) (hio : iop call (.build zs qs) e h = some (v, ef)) :
    ∃ v' W', Does G a ⟨dst, .build t ps, type, pos, after, guard⟩ W v' W' ∧ After G.T S base h W v ef v' W' := by
  simp only [iop, Option.map_eq_some_iff, Prod.mk.injEq] at hio
  obtain ⟨cs, hf, rfl, rfl⟩ := hio
  obtain ⟨i, z, hi, hz0, rfl, hsz, hall, hrun⟩ := zero_run t hz
  obtain ⟨cs', h1, h2⟩ := parts_sound hE hq (lfs_self hall) hf
  refine ⟨.agg cs', W, .inl ?_, .pure hr ?_⟩
  · cases hu : G.P.underlying t with
    | none => simp [fieldsKnown, hu] at hk
    | some d =>
      cases d with
      | struct fs =>
        have hmap : (fs.mapM (m := Sem) fun f => do pure (f.offset, ← sizeOf f.type)).run G.P W = .ok (fs.map fun f => (f.offset, G.P.cellsOf f.type)) W := by
          have hall' : ∀ f ∈ fs.toList, (G.P.info? f.type).isSome = true := by
            simp only [fieldsKnown, hu] at hk
            exact List.all_eq_true.1 hk
          have hl : ∀ (l : List Field), (∀ f ∈ l, (G.P.info? f.type).isSome = true) → (l.mapM (m := Sem) fun f => do pure (f.offset, ← sizeOf f.type)).run G.P W = .ok (l.map fun f => (f.offset, G.P.cellsOf f.type)) W := by
            intro l
            induction l with
            | nil => intro _; rfl
            | cons f l ih =>
              intro hl
              obtain ⟨j, hj⟩ := Option.isSome_iff_exists.1 (hl f (by simp))
              have hsz' : (sizeOf f.type).run G.P W = .ok (G.P.cellsOf f.type) W := by simp [sizeOf, typeInfo, hj, Program.cellsOf]
              have ih' := ih (fun f hf => hl f (by simp [hf]))
              simp at ih'
              simp [List.mapM_cons, Sem.run_bind, hsz', ih', Result.andThen]
          rw [Array.mapM_eq_mapM_toList]
          show Sem.run G.P (List.mapM (fun f : Field => do pure (f.offset, ← sizeOf f.type)) fs.toList >>= fun l => pure l.toArray) W = _
          rw [Sem.run_bind, hl fs.toList hall']
          simp [Result.andThen]
          apply Array.ext'; simp
        have hplace : (fun i => (fs.map fun f => (f.offset, G.P.cellsOf f.type))[i]?) = placeOf G t := by
          funext i
          simp only [placeOf, hu, Array.getElem?_map]
          cases hf : fs[i]? with
          | none => rfl
          | some f =>
            have hm : f ∈ fs.toList := by simpa using Array.mem_of_getElem? hf
            have hall' : ∀ f ∈ fs.toList, (G.P.info? f.type).isSome = true := by
              simp only [fieldsKnown, hu] at hk
              exact List.all_eq_true.1 hk
            obtain ⟨j, hj⟩ := Option.isSome_iff_exists.1 (hall' f hm)
            simp [hj, Program.cellsOf]
        simp only [execOp, Instr.build, Sem.run_bind, hrun, Result.andThen, run_underlying hu, hmap, Array.toList_map, Sem.run_pure]
        rw [hplace]
        have h1' : Instr.fill (placeOf G t) z.cells (List.map (fun x => (x.fst, a.eval x.snd)) ps.toList) = some cs' := h1
        rw [h1']
        simp
      | array n el =>
        simp only [fieldsKnown, hu] at hk
        obtain ⟨j, hj⟩ := Option.isSome_iff_exists.1 hk
        have hsz' : (sizeOf el).run G.P W = .ok j.size W := by simp [sizeOf, typeInfo, hj]
        have hplace : (fun i => some (i * j.size, j.size)) = placeOf G t := by
          funext i
          simp [placeOf, hu, hj]
        simp only [execOp, Instr.build, Sem.run_bind, hrun, Result.andThen, run_underlying hu, hsz', Array.toList_map, Sem.run_pure]
        rw [hplace]
        have h1' : Instr.fill (placeOf G t) z.cells (List.map (fun x => (x.fst, a.eval x.snd)) ps.toList) = some cs' := h1
        rw [h1']
        simp
      | _ => simp [fieldsKnown, hu] at hk
  · exact .agg _ _ (by have := h2.1; simpa using this) fun i v v' a1 a2 => h2.2 i v v' (by simpa using a1) (by simpa using a2)
end
end Go.Proofs.Cp
