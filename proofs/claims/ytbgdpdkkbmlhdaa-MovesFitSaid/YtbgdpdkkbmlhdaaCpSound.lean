/- The machine is sound: what it answers, the model's call comes to. -/
import Derived.Test.YtbgdpdkkbmlhdaaCpOps6
set_option linter.unusedSimpArgs false
set_option linter.unusedVariables false
namespace Go.Proofs.Cp
open Go Go.RowKit
section
variable {G : Ctx} {S : Inj} {base : Nat} {h : Heap} {W : World} {nt : Nat → Bool} {e : Env} {a : Act} {call : Calls_} {v : Value} {ef : Eff}

theorem wp_does {o : Oper} {K : Act → World → Prop} {Q : Exit → Act → World → Prop} (hd : ∃ v' W', Does G a o W v' W' ∧ After G.T S base h W v ef v' W')
    (hK : ∀ v' W', After G.T S base h W v ef v' W' → K (a.put o.dst v') W') : o.wp G.P a W K Q := by
  obtain ⟨v', W', hd, hA⟩ := hd
  rcases hd with hd | ⟨hd, rfl⟩
  · exact wp_val hd (hK _ _ hA)
  · exact wp_skp hd (hK _ _ hA)

theorem call_sound (hcall : CallSound G call) {dst : Option Tmp} {type : TypeId} {pos : String} {after : Array Edge} {guard : Option (Nat × Bool)} {f : Operand} {as : Array Operand} {ts : Array TypeId} {g : Opd} {ys : List Opd} {frz : Bool}
    (hE : ER G.T S nt e a.tmps) (hr : HR G.T S base h W) (hg : GL G base W) (hf : cOpd G nt f = some g) (hc : cOpds G nt as.toList = some ys) (hio : iop call (.call g ys frz) e h = some (v, ef))
    {K : Act → World → Prop} {Q : Exit → Act → World → Prop} (hK : ∀ v' W', After G.T S base h W v ef v' W' → K (a.put dst v') W') : (⟨dst, .call ⟨.value f, as, ts⟩, type, pos, after, guard⟩ : Oper).wp G.P a W K Q := by
  have h1 := opd_sound hE hf
  have h2 := opds_sound hE hc
  simp only [iop] at hio
  split at hio
  · rename_i c first caps hx
    rw [hx] at h1
    obtain ⟨rfl, caps', e1, h3⟩ := h1.inv_func
    simp only [Option.map_eq_some_iff, Prod.mk.injEq] at hio
    obtain ⟨r, hcl, rfl, hef⟩ := hio
    obtain ⟨v0, ef0⟩ := r
    have hargs : VRs G.T S ([] ++ ys.map (ev e) ++ caps.toList) (as.toList.map a.eval ++ caps'.toList) := by
      simpa using h2.append h3
    obtain ⟨⟨F, hF1, hF2, hF3⟩, hC⟩ := hcall c _ h v0 ef0 hcl S base W _ hr hg hargs
    have hrun : (execOp a.eval (⟨dst, .call ⟨.value f, as, ts⟩, type, pos, after, guard⟩ : Oper)).run G.P W = .ok (.enter (G.T c) (as.map a.eval ++ caps')) W := by
      have hF2' : ¬ F.body = none := by intro h; simp [h] at hF2
      have hF3' : ¬ F.name = "runtime.NumGoroutine" := by simpa using hF3
      simp [execOp, resolve, e1, Deferred.ofValue, invoke, callFunc, hF1, hF2', hF3']
    unfold Oper.wp
    rw [hrun, Oper.upon_enter]
    have hargs' : (as.toList.map a.eval ++ caps'.toList).toArray = as.map a.eval ++ caps' := by apply Array.ext'; simp
    rw [hargs'] at hC
    refine Calls.mono hC fun en W' hen => ?_
    obtain ⟨v', rfl, S', hx', hn, hv', hh, hb⟩ := hen
    refine hK v' W' ⟨S', hx', ?_, hv', ?_, hb⟩
    · intro hnone
      apply hn
      cases ef0 with
      | none => rfl
      | some p => rw [← hef] at hnone; simp at hnone
    · cases ef0 with
      | none => rw [← hef]; exact hh
      | some p =>
        rw [← hef]
        cases frz
        · exact hh
        · exact HR.freeze hh _
  · simp at hio

theorem op_sound (hcall : CallSound G call) {o : Oper} {io : IOp} (hc : cOp G nt o.op = some io) (hE : ER G.T S nt e a.tmps) (hr : HR G.T S base h W) (hg : GL G base W) (hio : iop call io e h = some (v, ef))
    {K : Act → World → Prop} {Q : Exit → Act → World → Prop} (hK : ∀ v' W', After G.T S base h W v ef v' W' → K (a.put o.dst v') W') : o.wp G.P a W K Q := by
  obtain ⟨dst, op, type, pos, after, guard⟩ := o
  simp only at hc hK
  cases op <;> simp only [cOp] at hc
  case move x => simp only [Option.map_eq_some_iff] at hc; obtain ⟨y, h1, rfl⟩ := hc; exact wp_does (does_move hE hr h1 hio (.inl rfl)) hK
  case assign x => simp only [Option.map_eq_some_iff] at hc; obtain ⟨y, h1, rfl⟩ := hc; exact wp_does (does_move hE hr h1 hio (.inr rfl)) hK
  case pick c x y =>
    simp only [Option.bind_eq_some_iff, Option.map_eq_some_iff] at hc
    obtain ⟨c', h1, x', h2, y', h3, rfl⟩ := hc
    exact wp_does (does_pick hE hr h1 h2 h3 hio) hK
  case alloc t => simp only [Option.map_eq_some_iff] at hc; obtain ⟨zs, h1, rfl⟩ := hc; exact wp_does (does_alloc hr h1 hio) hK
  case box t x => simp only [Option.map_eq_some_iff] at hc; obtain ⟨y, h1, rfl⟩ := hc; exact wp_does (does_box hE hr h1 hio) hK
  case build t ps =>
    split at hc
    · rename_i hk
      simp only [Option.bind_eq_some_iff, Option.map_eq_some_iff] at hc
      obtain ⟨zs, h1, qs, h2, rfl⟩ := hc
      exact wp_does (does_build hE hr hk h1 h2 hio) hK
    · simp at hc
  case buildSlice t n ps =>
    split at hc
    · rename_i el hu
      split at hc
      · rename_i i hi
        simp only [Option.bind_eq_some_iff] at hc
        obtain ⟨zs, h1, hc⟩ := hc
        split at hc
        · rename_i hn
          simp only [Option.map_eq_some_iff] at hc
          obtain ⟨qs, h2, rfl⟩ := hc
          exact wp_does (does_buildSlice hE hr hu hi h1 hn h2 hio) hK
        · simp at hc
      · simp at hc
    · simp at hc
  case load t x =>
    split at hc
    · exact wp_does (does_glob hr hg hc hio) hK
    · simp only [Option.bind_eq_some_iff] at hc
      obtain ⟨y, h1, hc⟩ := hc
      split at hc
      · rename_i i hb hi; simp at hc; subst hc; exact wp_does (does_loadN hE hr h1 hb hi hio) hK
      · rename_i i hb hi; simp at hc; subst hc; exact wp_does (does_load1 hE hr h1 hb hio) hK
      · simp at hc
  case store t x z =>
    simp only [Option.bind_eq_some_iff] at hc
    obtain ⟨y, h1, z, h2, hc⟩ := hc
    split at hc
    · rename_i i hi; simp at hc; subst hc; exact wp_does (does_store hE hr h1 h2 hi hio) hK
    · simp at hc
  case nilCheck x => simp only [Option.map_eq_some_iff] at hc; obtain ⟨y, h1, rfl⟩ := hc; exact wp_does (does_nilCheck hE hr h1 hio) hK
  case binOp op t x y t2 =>
    simp only [Option.bind_eq_some_iff] at hc
    obtain ⟨y, h1, z, h2, hc⟩ := hc
    split at hc
    · simp at hc; subst hc; exact wp_does (does_bin hE hr h1 h2 hio) hK
    · rename_i hu
      split at hc
      · simp at hc; subst hc; exact wp_does (does_eqn (neg := false) hE hr h1 h2 (.inl ⟨rfl, hu⟩) hio) hK
      · simp at hc; subst hc; exact wp_does (does_eqn (neg := true) hE hr h1 h2 (.inl ⟨rfl, hu⟩) hio) hK
      · simp at hc
    · rename_i el hu
      split at hc
      · simp at hc; subst hc; exact wp_does (does_eqn (neg := false) hE hr h1 h2 (.inr (.inl ⟨rfl, el, hu⟩)) hio) hK
      · simp at hc; subst hc; exact wp_does (does_eqn (neg := true) hE hr h1 h2 (.inr (.inl ⟨rfl, el, hu⟩)) hio) hK
      · simp at hc
    · rename_i el hu
      split at hc
      · simp at hc; subst hc; exact wp_does (does_eqn (neg := false) hE hr h1 h2 (.inr (.inr ⟨rfl, el, hu⟩)) hio) hK
      · simp at hc; subst hc; exact wp_does (does_eqn (neg := true) hE hr h1 h2 (.inr (.inr ⟨rfl, el, hu⟩)) hio) hK
      · simp at hc
    · rename_i fs hu
      split at hc
      · simp at hc
      · rename_i hgd
        split at hc
        · split at hc
          · rename_i l i hl hi; simp at hc; subst hc; exact wp_does (does_eqs (neg := false) hE hr h1 h2 hu (by simpa using hgd) hl hi hio) hK
          · simp at hc
        · split at hc
          · rename_i l i hl hi; simp at hc; subst hc; exact wp_does (does_eqs (neg := true) hE hr h1 h2 hu (by simpa using hgd) hl hi hio) hK
          · simp at hc
        · simp at hc
    · simp at hc
  case unOp op t x => simp only [Option.map_eq_some_iff] at hc; obtain ⟨y, h1, rfl⟩ := hc; exact wp_does (does_un hE hr h1 hio) hK
  case convert s d x =>
    simp only [Option.bind_eq_some_iff] at hc
    obtain ⟨y, h1, hc⟩ := hc
    split at hc
    · rename_i k hs hd; simp at hc; subst hc; exact wp_does (does_conv hE hr h1 hs hd hio) hK
    · simp at hc
  case makeFunc fn first cs =>
    simp only [Option.bind_eq_some_iff] at hc
    obtain ⟨ys, h1, hc⟩ := hc
    split at hc
    · rename_i f hfirst
      have hf0 : first = #[] := by simpa using hfirst
      subst hf0
      split at hc
      · split at hc
        · rename_i hT; simp at hc; subst hc; exact wp_does (does_mkFunc hE hr hT h1 hio) hK
        · simp at hc
      · simp at hc
    · simp at hc
  case makeSlice t l c =>
    simp only [Option.bind_eq_some_iff] at hc
    obtain ⟨y, h1, z, h2, hc⟩ := hc
    split at hc
    · rename_i el hu
      split at hc
      · rename_i i hi
        simp only [Option.bind_eq_some_iff] at hc
        obtain ⟨zs, h3, hc⟩ := hc
        split at hc
        · simp at hc
        · simp at hc; subst hc; exact wp_does (does_mkSlice hE hr h1 h2 hu hi h3 (by simp) hio) hK
      · simp at hc
    · simp at hc
  case slice t x lo hi mx =>
    split at hc
    · simp at hc
    · rename_i hmx
      have hmx0 : mx = none := by cases mx <;> simp_all
      subst hmx0
      simp only [Option.bind_eq_some_iff] at hc
      obtain ⟨y, h1, lo', h2, hi', h3, hc⟩ := hc
      split at hc
      · rename_i el hu
        split at hc
        · rename_i i hi; simp at hc; subst hc; exact wp_does (does_slice hE hr h1 h2 h3 hu hi hio) hK
        · simp at hc
      · simp at hc
  case fieldAddr t x i =>
    simp only [Option.bind_eq_some_iff] at hc
    obtain ⟨y, h1, hc⟩ := hc
    split at hc
    · rename_i fs hu
      split at hc
      · rename_i f hf
        split at hc
        · rename_i j hj
          split at hc
          · simp at hc
          · rename_i h0; simp at hc; subst hc; exact wp_does (does_fieldAddr hE hr h1 hu hf hj h0 hio) hK
        · simp at hc
      · simp at hc
    · simp at hc
  case field t x i =>
    simp only [Option.bind_eq_some_iff] at hc
    obtain ⟨y, h1, hc⟩ := hc
    split at hc
    · rename_i fs hu
      split at hc
      · rename_i f hf
        split at hc
        · rename_i j hb hj; simp at hc; subst hc; exact wp_does (does_fieldN hE hr h1 hu hf hb hj hio) hK
        · rename_i j hb hj; simp at hc; subst hc; exact wp_does (does_field1 hE hr h1 hu hf hb hio) hK
        · simp at hc
      · simp at hc
    · simp at hc
  case indexAddr t x i =>
    simp only [Option.bind_eq_some_iff] at hc
    obtain ⟨y, h1, z, h2, hc⟩ := hc
    split at hc
    · rename_i el hu
      split at hc
      · rename_i j hj; simp at hc; subst hc; exact wp_does (does_idxAddr hE hr h1 h2 hu hj hio) hK
      · simp at hc
    · rename_i n el hu
      split at hc
      · rename_i j hj; simp at hc; subst hc; exact wp_does (does_idxAddrA hE hr h1 h2 hu hj hio) hK
      · simp at hc
    · simp at hc
  case index t x i =>
    simp only [Option.bind_eq_some_iff] at hc
    obtain ⟨y, h1, z, h2, hc⟩ := hc
    split at hc
    · rename_i n el hu
      split at hc
      · rename_i j hb hj
        split at hc
        · rename_i hs; simp at hc; subst hc; exact wp_does (does_idx1 hE hr h1 h2 hu hb hj hs hio) hK
        · simp at hc
      · simp at hc
    · rename_i hu; simp at hc; subst hc; exact wp_does (does_idxS hE hr h1 h2 hu hio) hK
    · simp at hc
  case extract x i => simp only [Option.map_eq_some_iff] at hc; obtain ⟨y, h1, rfl⟩ := hc; exact wp_does (does_extract hE hr h1 hio) hK
  case call c =>
    obtain ⟨callee, as, ts⟩ := c
    simp only at hc
    split at hc
    · simp only [Option.bind_eq_some_iff, Option.map_eq_some_iff] at hc
      obtain ⟨g, h1, ys, h2, rfl⟩ := hc
      exact call_sound hcall hE hr hg h1 h2 hio hK
    · rename_i b
      unfold cBuiltin at hc
      split at hc
      · split at hc
        · rename_i x t has hts
          have has' : as = #[x] := by apply Array.ext'; simpa using has
          have hts' : ts = #[t] := by apply Array.ext'; simpa using hts
          subst has'; subst hts'
          simp only [Option.bind_eq_some_iff] at hc
          obtain ⟨y, h1, hc⟩ := hc
          split at hc
          · rename_i el hu; simp at hc; subst hc; exact wp_does (does_len hE hr h1 hu hio) hK
          · simp at hc
        · simp at hc
      · simp only [Option.bind_eq_some_iff] at hc
        obtain ⟨ys, h1, hc⟩ := hc
        split at hc
        · simp at hc; subst hc; exact wp_does (does_minmax (mx := false) hE hr h1 hio) hK
        · simp at hc
      · simp only [Option.bind_eq_some_iff] at hc
        obtain ⟨ys, h1, hc⟩ := hc
        split at hc
        · simp at hc; subst hc; exact wp_does (does_minmax (mx := true) hE hr h1 hio) hK
        · simp at hc
      · split at hc
        · rename_i s x t u has hts
          have has' : as = #[s, x] := by apply Array.ext'; simpa using has
          have hts' : ts = #[t, u] := by apply Array.ext'; simpa using hts
          subst has'; subst hts'
          simp only [Option.bind_eq_some_iff] at hc
          obtain ⟨y, h1, z, h2, hc⟩ := hc
          split at hc
          · rename_i el el2 hu hu2
            split at hc
            · rename_i i hi
              split at hc
              · rename_i zv hzv
                split at hc
                · rename_i hcond
                  obtain ⟨hzs, rfl⟩ := hcond
                  simp at hc; subst hc; exact wp_does (does_append hE hr h1 h2 hu hi hzv hzs hio) hK
                · simp at hc
              · simp at hc
            · simp at hc
          · simp at hc
        · simp at hc
      · split at hc
        · rename_i s x t u has hts
          have has' : as = #[s, x] := by apply Array.ext'; simpa using has
          have hts' : ts = #[t, u] := by apply Array.ext'; simpa using hts
          subst has'; subst hts'
          simp only [Option.bind_eq_some_iff] at hc
          obtain ⟨y, h1, z, h2, hc⟩ := hc
          split at hc
          · rename_i el el2 hu hu2
            split at hc
            · rename_i i hi; simp at hc; subst hc; exact wp_does (does_copy hE hr h1 h2 hu hi hio) hK
            · simp at hc
          · simp at hc
        · simp at hc
      · split at hc
        · rename_i x t has hts
          have has' : as = #[x] := by apply Array.ext'; simpa using has
          have hts' : ts = #[t] := by apply Array.ext'; simpa using hts
          subst has'; subst hts'
          simp only [Option.bind_eq_some_iff] at hc
          obtain ⟨y, h1, hc⟩ := hc
          split at hc
          · rename_i el hu
            simp only [Option.bind_eq_some_iff] at hc
            obtain ⟨zs, h3, hc⟩ := hc
            split at hc
            · simp at hc
            · simp at hc; subst hc; exact wp_does (does_clear hE hr h1 hu h3 (by simp) hio) hK
          · simp at hc
        · simp at hc
      · simp at hc
    · simp at hc
  all_goals simp at hc
end
end Go.Proofs.Cp
