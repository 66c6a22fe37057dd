/- Code, functions, the machine. -/
import Derived.Test.YtbgdpdkkbmlhdaaCpDraw
import Derived.LoopN
set_option linter.unusedSimpArgs false
set_option linter.unusedVariables false
namespace Go.Proofs.Cp
open Go Go.RowKit
section
variable {G : Ctx} {base nt : Nat} {call : Calls_}

def exOf : Ex → Exit
  | .normal => .normal
  | .exit id => .exit id
  | .ret => .ret

theorem code_sound (hm : G.P.follows .mixedOrders = true) (hcall : CallSound G call) (hfr : CallFr call) (k : Nat) : ∀ (c : Code) (ic : ICode), cCode G nt c = some ic → ∀ (s : St) (r : Ex × St), run call k ic s = some r → ∀ (S : Inj) (a : Act) (W : World) (Q : Exit → Act → World → Prop),
    FR G S base nt s a W → (∀ S' a' W', Ext S S' → FR G S' base nt r.2 a' W' → Below base W W' → Q (exOf r.1) a' W') → c.wp G.P Q a W
  | .skip, ic, hc, s, r, hrun, S, a, W, Q, hF, hQ => by
    simp [cCode] at hc; subst hc
    simp [run] at hrun; subst hrun
    exact wp_skip (hQ S a W (.refl _) hF (.refl _ _))
  | .region id ops false, ic, hc, s, r, hrun, S, a, W, Q, hF, hQ => by
    simp only [cCode, Option.map_eq_some_iff] at hc
    obtain ⟨os, h1, rfl⟩ := hc
    simp only [run, Option.map_eq_some_iff] at hrun
    obtain ⟨s', h2, rfl⟩ := hrun
    have := ops_sound hcall (ops := ops) (Q := Q) ops.toList 0 os s s' S a W h1 (fun i => by simp) hF h2 (fun S' a' W' hx hF' hb => hQ S' a' W' hx hF' hb)
    exact wp_region (by rw [List.range_eq_range']; simpa using this)
  | .region id ops true, ic, hc, s, r, hrun, S, a, W, Q, hF, hQ => by
    simp only [cCode] at hc
    split at hc
    · rename_i hd
      simp only [Option.bind_eq_some_iff] at hc
      obtain ⟨os, h1, hc⟩ := hc
      split at hc
      · rename_i hcond
        simp only [Bool.and_eq_true] at hcond
        simp at hc; subst hc
        simp only [run, Option.bind_eq_some_iff] at hrun
        obtain ⟨sF, h2, h3⟩ := hrun
        split at h3
        · rename_i hld
          simp at h3; subst h3
          obtain ⟨E, hE0, hEn, hEs⟩ := runOpsE_get h2
          refine wp_region_any hm ?_
          have hlen0 : s.heap.length = S.n := hF.heap.len
          have hrx := S.reserve_ext ((preE (mkE (ancT ops.toList []) os)).map fun zs => Blk.cells false 0 zs).length
          refine drawE_sound (base := base) (l := mkE (ancT ops.toList []) os) (E := E) (S0 := S) hcall hfr hd h1 (mkE_fst _ os) hcond.2 ⟨hEs⟩ (by rw [hE0]) (fun k zs hk => ?_) (by rw [hEn]; exact hld) (W0 := W) (by rw [hE0]; exact Nat.le_of_eq hlen0.symm) (fun S' a' W' hx g1 g2 g3 g4 g5 g6 => ?_) _ _ a _ (S.reserve ((preE (mkE (ancT ops.toList []) os)).map fun zs => Blk.cells false 0 zs).length) 0 (by simp) ?_ hF.size (Nat.zero_le _) ?_ hrx (by rw [hE0]; exact hF.heap.drew.reserve _) hF.gl hF.defs ((Below.refl _ _).drew) ?_ (fun t ht _ => by rw [hE0]; exact (hF.env.at_ t (by simpa [inT] using ht)).mono hrx) ?_ ?_
          · rw [hE0]
            simp only
            rw [List.getElem?_append_right (Nat.le_add_right _ _), Nat.add_sub_cancel_left, List.getElem?_map, hk]; rfl
          · rw [hEn] at g2 g3
            exact hQ S' a' W' hx ⟨g1, g2, g3, g4, g5⟩ g6
          · unfold unlisted
            have := List.length_filter_le (fun b => !b) (Array.replicate ops.size false).toList
            simp
          · intro j x _ _
            by_cases hl : j < ops.size <;> simp [hl]
          · intro j o hj
            simp at hj
            by_cases hl : j < ops.size <;> simp [hl] at hj
          · intro j o t _ _ hj
            by_cases hl : j < ops.size <;> simp [hl] at hj
          · intro j x zs hx hz _
            have hrank := ((okE_spec hcond.2).1 j x hx).2 _ hz
            have hlt := (List.getElem?_eq_some_iff.1 (preE_at hx hz)).1
            rw [← hrank] at hlt
            rw [hE0]
            simp only
            exact ⟨S.reserve_ok _ (by omega), by simp only [Inj.reserve, List.length_map]; omega⟩
        · simp at h3
      · simp at hc; subst hc
        simp only [run, Option.map_eq_some_iff] at hrun
        obtain ⟨eF, h2, rfl⟩ := hrun
        obtain ⟨E, hE0, hEn, hEs⟩ := runOpsD_get h2
        refine wp_region_any hm ?_
        refine draw_sound (S := S) (base := base) hcall hd h1 hE0 hEs (W0 := W) (fun a' W' g1 g2 g3 g4 g5 g6 => ?_) _ _ a _ (by simp) ?_ hF.size hF.heap.drew hF.gl hF.defs ((Below.refl _ _).drew) ?_ (fun t ht _ => hF.env.at_ t (by simpa [inT] using ht)) ?_
        · rw [hEn] at g2
          exact hQ S a' W' (.refl _) ⟨g1, g2, g3, g4, g5⟩ g6
        · unfold unlisted
          have := List.length_filter_le (fun b => !b) (Array.replicate ops.size false).toList
          simp
        · intro j o hj
          simp at hj
          by_cases hl : j < ops.size <;> simp [hl] at hj
        · intro j o t _ _ hj
          by_cases hl : j < ops.size <;> simp [hl] at hj
    · simp at hc
  | .seq x y, ic, hc, s, r, hrun, S, a, W, Q, hF, hQ => by
    simp only [cCode, Option.bind_eq_some_iff, Option.map_eq_some_iff] at hc
    obtain ⟨ix, h1, iy, h2, rfl⟩ := hc
    simp only [run, Option.bind_eq_some_iff] at hrun
    obtain ⟨r1, h3, h4⟩ := hrun
    obtain ⟨x1, s1⟩ := r1
    refine wp_seq (code_sound hm hcall hfr k x ix h1 s (x1, s1) h3 S a W _ hF fun S' a' W' hx hF' hb => ?_)
    cases x1 with
    | normal =>
      simp only at h4
      exact code_sound hm hcall hfr k y iy h2 s1 r h4 S' a' W' Q hF' (fun S2 a2 W2 hx2 hF2 hb2 => hQ S2 a2 W2 (hx.trans hx2) hF2 (hb.trans hb2))
    | exit id => simp at h4; subst h4; exact hQ S' a' W' hx hF' hb
    | ret => simp at h4; subst h4; exact hQ S' a' W' hx hF' hb
  | .cond c x y, ic, hc, s, r, hrun, S, a, W, Q, hF, hQ => by
    simp only [cCode, Option.bind_eq_some_iff, Option.map_eq_some_iff] at hc
    obtain ⟨c', h0, ix, h1, iy, h2, rfl⟩ := hc
    have hv := opd_sound hF.env h0
    simp only [run] at hrun
    split at hrun
    · rename_i hb
      exact wp_cond_true ((hv.bool_iff true).1 hb) (code_sound hm hcall hfr k x ix h1 s r hrun S a W Q hF hQ)
    · rename_i hb
      exact wp_cond_false ((hv.bool_iff false).1 hb) (code_sound hm hcall hfr k y iy h2 s r hrun S a W Q hF hQ)
    · simp at hrun
  | .block id c, ic, hc, s, r, hrun, S, a, W, Q, hF, hQ => by
    simp only [cCode, Option.map_eq_some_iff] at hc
    obtain ⟨ix, h1, rfl⟩ := hc
    simp only [run, Option.map_eq_some_iff] at hrun
    obtain ⟨r1, h3, h4⟩ := hrun
    obtain ⟨x1, s1⟩ := r1
    refine wp_block (code_sound hm hcall hfr k c ix h1 s (x1, s1) h3 S a W _ hF fun S' a' W' hx hF' hb => ?_)
    cases x1 with
    | normal => simp at h4; subst h4; exact hQ S' a' W' hx hF' hb
    | exit i =>
      simp only [exOf, Exit.inBlock]
      by_cases hi : i = id
      · simp [hi] at h4 ⊢; subst h4; exact hQ S' a' W' hx hF' hb
      · simp [hi] at h4 ⊢; subst h4; exact hQ S' a' W' hx hF' hb
    | ret => simp at h4; subst h4; exact hQ S' a' W' hx hF' hb
  | .loop c, ic, hc, s, r, hrun, S, a, W, Q, hF, hQ => by
    simp only [cCode, Option.map_eq_some_iff] at hc
    obtain ⟨ix, h1, rfl⟩ := hc
    simp only [run] at hrun
    have key : ∀ (n : Nat) (s : St), iter (run call k ix) n s = some r → ∀ (S : Inj) (a : Act) (W : World), FR G S base nt s a W → (∀ S' a' W', Ext S S' → FR G S' base nt r.2 a' W' → Below base W W' → Q (exOf r.1) a' W') → Code.rounds G.P c Q n a W := by
      intro n
      induction n with
      | zero => intro s hr; simp [iter] at hr
      | succ n ih =>
        intro s hr S a W hF hQ
        simp only [iter, Option.bind_eq_some_iff] at hr
        obtain ⟨r1, h3, h4⟩ := hr
        obtain ⟨x1, s1⟩ := r1
        rw [rounds_succ]
        refine code_sound hm hcall hfr k c ix h1 s (x1, s1) h3 S a W _ hF fun S' a' W' hx hF' hb => ?_
        cases x1 with
        | normal =>
          simp only at h4
          exact ih s1 h4 S' a' W' hF' (fun S2 a2 W2 hx2 hF2 hb2 => hQ S2 a2 W2 (hx.trans hx2) hF2 (hb.trans hb2))
        | exit id => simp at h4; subst h4; exact hQ S' a' W' hx hF' hb
        | ret => simp at h4; subst h4; exact hQ S' a' W' hx hF' hb
    exact wp_loop_rounds k (key k s hrun S a W hF hQ)
  | .exit id, ic, hc, s, r, hrun, S, a, W, Q, hF, hQ => by
    simp [cCode] at hc; subst hc
    simp [run] at hrun; subst hrun
    exact wp_exit (hQ S a W (.refl _) hF (.refl _ _))
  | .ret, ic, hc, s, r, hrun, S, a, W, Q, hF, hQ => by
    simp [cCode] at hc; subst hc
    simp [run] at hrun; subst hrun
    exact wp_ret (hQ S a W (.refl _) hF (.refl _ _))
  | .rangeFunc f ps as b, ic, hc, s, r, hrun, S, a, W, Q, hF, hQ => by simp [cCode] at hc
  | .scope b, ic, hc, s, r, hrun, S, a, W, Q, hF, hQ => by simp [cCode] at hc
  | .label l, ic, hc, s, r, hrun, S, a, W, Q, hF, hQ => by simp [cCode] at hc
  | .goto l, ic, hc, s, r, hrun, S, a, W, Q, hF, hQ => by simp [cCode] at hc
  | .refuse w, ic, hc, s, r, hrun, S, a, W, Q, hF, hQ => by simp [cCode] at hc

/-! ### Results -/
def resRun (tmps : Array Value) : ResultVar → Sem Value
  | .tmp t => pure (tmps.getD t undef)
  | .cell a t => do loadVar t (← asAddr (tmps.getD a undef))
theorem res_sound {S : Inj} {e : Env} {h : Heap} {tmps : Array Value} {W : World} (hE : ER G.T S (inT nt) e tmps) (hr : HR G.T S base h W) {x : ResultVar} {y : IRes} (hc : cRes G nt x = some y) {v : Value} (hv : resOf e h y = some v) :
    ∃ v', (resRun tmps x).run G.P W = .ok v' W ∧ VR G.T S v v' := by
  cases x with
  | tmp t =>
    simp only [cRes] at hc
    split at hc
    · rename_i ht
      simp at hc; subst hc
      simp [resOf] at hv; subst hv
      exact ⟨_, by simp [resRun], hE.at_ t (by simpa [inT] using ht)⟩
    · simp at hc
  | cell t ty =>
    simp only [cRes] at hc
    split at hc
    · rename_i ht
      have hvt := hE.at_ t (by simpa [inT] using ht)
      split at hc
      · rename_i i hb hi
        simp at hc; subst hc
        simp only [resOf] at hv
        split at hv
        · rename_i p hp
          simp only [Option.map_eq_some_iff] at hv
          obtain ⟨vs, hl, rfl⟩ := hv
          rw [hp] at hvt
          obtain ⟨_, hbl, h2⟩ := hvt.inv_ptr
          obtain ⟨_, hlen, vs', h3, h4⟩ := ldN_read hr hbl hl
          have hrun := run_loadCells_list (P := G.P) W ((S.base p.block).add p.off) vs' h4
          rw [show vs'.length = i.size by rw [← h3.1]; exact hlen] at hrun
          refine ⟨.agg vs'.toArray, ?_, VR.agg_mk h3⟩
          simp only [resRun, h2]
          simp [asAddr, loadVar, agg_run ty hb, size_run ty hi, hrun]
        · simp at hv
      · rename_i i hb hi
        simp at hc; subst hc
        simp only [resOf] at hv
        split at hv
        · rename_i p hp
          rw [hp] at hvt
          obtain ⟨_, hbl, h2⟩ := hvt.inv_ptr
          obtain ⟨_, v', h3, h4⟩ := ld1_read hr hbl hv
          refine ⟨v', ?_, h4⟩
          simp only [resRun, h2]
          simp [asAddr, loadVar, agg_run ty hb, run_load, h3]
        · simp at hv
      · simp at hc
    · simp at hc
theorem ress_sound {S : Inj} {e : Env} {h : Heap} {tmps : Array Value} {W : World} (hE : ER G.T S (inT nt) e tmps) (hr : HR G.T S base h W) : ∀ {xs : List ResultVar} {ys : List IRes}, cRess G nt xs = some ys → ∀ {vs : List Value}, resL e h ys = some vs →
    ∃ vs', (xs.mapM (resRun tmps)).run G.P W = .ok vs' W ∧ VRs G.T S vs vs'
  | [], ys, hc, vs, hv => by
    simp [cRess] at hc; subst hc
    simp [resL] at hv; subst hv
    exact ⟨[], by simp, .nil⟩
  | x :: xs, ys, hc, vs, hv => by
    simp only [cRess, Option.bind_eq_some_iff, Option.map_eq_some_iff] at hc
    obtain ⟨y, h1, ys', h2, rfl⟩ := hc
    simp only [resL, Option.bind_eq_some_iff, Option.map_eq_some_iff] at hv
    obtain ⟨v, h3, vs0, h4, rfl⟩ := hv
    obtain ⟨v', h5, h6⟩ := res_sound hE hr h1 h3
    obtain ⟨vs', h7, h8⟩ := ress_sound hE hr h2 h4
    exact ⟨v' :: vs', by simp [List.mapM_cons, h5, h7], .cons h6 h8⟩
theorem tup_sound {S : Inj} {vs vs' : List Value} (h : VRs G.T S vs vs') : VR G.T S (tup vs) (if h : vs'.toArray.size = 1 then vs'.toArray[0] else .tuple vs'.toArray) := by
  have hl := h.1
  match vs, vs', hl, h with
  | [], [], _, h => exact VR.tuple_mk h
  | [x], [y], _, h => exact h.head
  | x :: y :: vs, x' :: y' :: vs', _, h => simp; exact VR.tuple_mk h

theorem get_args (args : List Value) (t : Nat) : get args t = args.getD t undef := by
  induction args generalizing t with
  | nil => simp [get_nil]
  | cons x l ih => cases t with
    | zero => rfl
    | succ t => simp [get]; simpa using ih t

/-- What a function's body comes to. -/
theorem fun_sound (hm : G.P.follows .mixedOrders = true) (hcall : CallSound G call) (hfr : CallFr call) {k : Nat} {f : FuncId} {F : Func} {iso : Bool} {fn : IFun} (hf : G.P.funcs[f]? = some F) (hc : cFun G iso F = some fn) {args : List Value} {h h' : Heap} {v : Value} {ws : List Nat}
    (hrun : runFun call k fn args h = some (v, h', ws)) {S : Inj} {W : World} {args' : List Value} (hr : HR G.T S base h W) (hg : GL G base W) (ha : VRs G.T S args args') :
    Enters G.P f ∧ Calls G.P f args'.toArray W fun en W' => ∃ v' S', en = .returned v' ∧ Ext S S' ∧ VR G.T S' v v' ∧ HR G.T S' base h' W' ∧ Below base W W' := by
  unfold cFun at hc
  split at hc
  · simp at hc
  · rename_i hname
    split at hc
    · simp at hc
    · rename_i b hb
      simp only [Option.bind_eq_some_iff, Option.map_eq_some_iff] at hc
      obtain ⟨rs, h1, ib, h2, rfl⟩ := hc
      refine ⟨⟨F, hf, by simp [hb], by simpa using hname⟩, ?_⟩
      unfold runFun at hrun
      split at hrun
      · rename_i hlen
        simp only [Option.bind_eq_some_iff] at hrun
        obtain ⟨r, h3, h4⟩ := hrun
        obtain ⟨x1, s1⟩ := r
        have hlen' : args'.length ≤ F.ntmps := by rw [← ha.1]; exact hlen
        refine calls_of_wp hf hb ?_
        refine code_sound (nt := F.ntmps) (base := base) hm hcall hfr k b ib h2 _ _ h3 S _ W _ ⟨?_, ⟨fun t ht => ?_⟩, hr, hg, rfl⟩ (fun S' a' W' hx hF hbl => ?_)
        · simp; omega
        · have ht' : t < F.ntmps := by simpa [inT] using ht
          rw [get_args]
          simp only [Array.getD_eq_getD_getElem?, List.getD_eq_getElem?_getD]
          rcases Nat.lt_or_ge t args.length with hl | hl
          · rw [Array.getElem?_append_left (by simp; rw [← ha.1]; exact hl)]
            have hl' : t < args'.length := by rw [← ha.1]; exact hl
            simp [hl, hl']
            exact ha.2 t _ _ (List.getElem?_eq_getElem hl) (List.getElem?_eq_getElem hl')
          · rw [Array.getElem?_append_right (by simp; rw [← ha.1]; exact hl), List.getElem?_eq_none hl]
            have : ((Array.replicate (F.ntmps - args'.toArray.size) Go.undef)[t - args'.toArray.size]?).getD Go.undef = Go.undef := by
              rw [Array.getElem?_replicate]; split <;> rfl
            rw [this]; exact VR.undef
        · have done : ∀ vs, resL s1.env s1.heap rs = some vs → (v, h', ws) = (tup vs, s1.heap, s1.wrs) → ∃ w, (results F a'.tmps).run G.P W' = .ok w W' ∧ ∃ v' S', Ending.returned w = .returned v' ∧ Ext S S' ∧ VR G.T S' v v' ∧ HR G.T S' base h' W' ∧ Below base W W' := by
            intro vs hvs he
            simp only [Prod.mk.injEq] at he
            obtain ⟨rfl, rfl, rfl⟩ := he
            obtain ⟨vs', h5, h6⟩ := ress_sound hF.env hF.heap h1 hvs
            refine ⟨_, ?_, _, S', rfl, hx, tup_sound h6, hF.heap, hbl⟩
            have hres : results F a'.tmps = (F.results.mapM (resRun a'.tmps) >>= fun vs => pure (if h : vs.size = 1 then vs[0] else .tuple vs)) := by
              unfold results
              congr 1
            rw [hres, Array.mapM_eq_mapM_toList]
            show Sem.run G.P ((List.mapM (resRun a'.tmps) F.results.toList >>= fun l => pure l.toArray) >>= _) W' = _
            simp only [Sem.run_bind, h5]
            simp [Result.andThen]
          cases x1 with
          | normal =>
            simp only [Option.map_eq_some_iff] at h4
            obtain ⟨vs, h5, h6⟩ := h4
            obtain ⟨w, h7, h8⟩ := done vs h5 h6.symm
            exact ⟨hF.defs, w, h7, h8⟩
          | exit id => simp at h4
          | ret =>
            simp only [Option.map_eq_some_iff] at h4
            obtain ⟨vs, h5, h6⟩ := h4
            obtain ⟨w, h7, h8⟩ := done vs h5 h6.symm
            exact ⟨hF.defs, w, h7, h8⟩
      · simp at hrun
end
end Go.Proofs.Cp
