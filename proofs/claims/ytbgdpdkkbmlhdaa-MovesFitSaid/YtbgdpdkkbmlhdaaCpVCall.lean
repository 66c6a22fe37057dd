/- The second machine's calls beside the first's. No program in sight. -/
import Derived.Test.YtbgdpdkkbmlhdaaCpVFrz
set_option linter.unusedSimpArgs false
set_option linter.unusedVariables false
namespace Go.Proofs.Cp
open Go
variable {base : Nat} {S0 : Cx} {h0 : Heap} {H0 : VHeap} {pr : Nat → Prop} {S : Cx} {h : Heap} {H : VHeap}

/-- The first machine does what the second does. -/
def SimC (sh : Nat → Bool) (vc : VCalls) (mc : Calls_) : Prop := ∀ f ds H base d H1, vc f ds H base = some (d, H1) → ∀ (S : Cx) (pr : Nat → Prop) (h : Heap) (vs : List Value),
  HX S pr h H → (∀ b, S.st b → pr b) → (∀ b, pr b → b < h.length) → DRs S h vs ds →
  ∃ v hm wm S1, mc f vs h = some (if sh f then (v, some (hm, wm.filter fun b => decide (b < h.length))) else gc h (v, hm, wm)) ∧ Fr h hm wm ∧ (∀ b, b ∈ wm → ¬ pr b) ∧ Act base S h H pr S1 hm H1 ∧ DR S1 hm v d

theorem gc_heap {h hm : Heap} {v v2 : Value} {wm : List Nat} {ef : Eff} (hf : Fr h hm wm) (hg : gc h (v, hm, wm) = (v2, ef)) :
    v2 = v ∧ h.length ≤ (hof2 h ef).length ∧ (∀ b, b < h.length → (hof2 h ef)[b]? = hm[b]?) ∧ (∀ h2 w, ef = some (h2, w) → ∀ b, b ∈ w → b ∈ wm) := by
  have hsub : ∀ b, b < h.length → b ∉ wm.filter (fun b => decide (b < h.length)) → b ∉ wm := fun b hb hn hm => hn (by simp [hm, hb])
  unfold gc at hg
  simp only at hg
  split at hg
  · split at hg
    · rename_i hw
      simp at hg; obtain ⟨rfl, rfl⟩ := hg
      refine ⟨rfl, Nat.le_refl _, fun b hb => ?_, by simp⟩
      exact (hf.get b hb (hsub b hb (by rw [hw]; simp))).symm
    · simp only [Prod.mk.injEq] at hg
      obtain ⟨rfl, rfl⟩ := hg
      refine ⟨rfl, by simp only [hof2]; rw [foldl_set_len]; exact Nat.le_refl _, fun b hb => ?_, fun h2 w he b hb => ?_⟩
      · simp only [hof2]
        rw [foldl_set_get _ _ _ hb hf.len]
        split
        · rfl
        · rename_i hn
          exact (hf.get b hb (hsub b hb hn)).symm
      · simp at he; obtain ⟨_, rfl⟩ := he
        exact (List.mem_filter.1 hb).1
  · simp only [Prod.mk.injEq] at hg
    obtain ⟨rfl, rfl⟩ := hg
    refine ⟨rfl, hf.len, fun b hb => rfl, fun h2 w he b hb => ?_⟩
    simp at he; obtain ⟨_, rfl⟩ := he
    exact (List.mem_filter.1 hb).1

theorem Grw.ext {S : Cx} {h h' : Heap} (hst : ∀ b, S.st b → b < h.length) (hl : h.length ≤ h'.length) (hs : ∀ b, b < h.length → h'[b]? = h[b]?) : Grw S h h' :=
  ⟨hl, fun b hb => hs b (hst b hb), fun b e xs hb => by rw [hs b (List.getElem?_eq_some_iff.1 hb).1]; exact hb, fun b e xs hl hb => by rw [hs b hl] at hb; exact hb⟩
/-- The first machine's heap grew. -/
theorem Act.ext (A : Act base S0 h0 H0 pr S h H) {h' : Heap} (hl : h.length ≤ h'.length) (hs : ∀ b, b < h.length → h'[b]? = h[b]?) : Act base S0 h0 H0 pr S h' H := by
  have hg : Grw S h h' := .ext (fun b hb => A.plS b (A.spS b hb)) hl hs
  refine ⟨⟨A.hx.n, A.hx.ver, fun b hb => ?_, A.hx.inj⟩, A.ce, A.gr.trans A.ce hg, A.se, A.sp, A.pl, A.bn, A.on, A.ob, A.od⟩
  obtain ⟨h1, h2, xs, h3, h4⟩ := A.hx.blk b hb
  exact ⟨h1, h2, xs, by rw [hs _ (A.hx.jlt hb)]; exact h3, h4.mono (.refl _) hg⟩
/-- A block that is there already becomes one of the second machine's. -/
theorem Act.adopt (A : Act base S0 h0 H0 pr S h H) {id e p : Nat} (hid : base ≤ id) {L : List (List DV)} {xs : List Value} (hp : h[p]? = some (.cells false e xs)) (hpr : ¬ pr p) (hp0 : h0.length ≤ p)
    (hne : ∀ c, (hg H c).live = true → S.j c ≠ p) (hb : BR S h e L xs) : Act base S0 h0 H0 pr (S.push id p e) h (hs H id ⟨(hg H id).ver + 1, e, true, L⟩) := by
  have hce := CxE.push S id p e
  have hgr := Grw.refl S h
  refine ⟨⟨by rw [hs_len, A.hx.n]; rfl, fun b => ?_, fun b hl => ?_, fun b c hbl hcl hne2 => ?_⟩, A.ce.trans hce, A.gr, A.se, A.sp, A.pl, A.bn, fun b hb hl => ?_, fun b hb hl => ?_, fun b hb hl => ?_⟩
  · rw [hg_hs]; simp only [Cx.push, upd]
    split
    · simp [A.hx.ver]
    · exact A.hx.ver b
  · rw [hg_hs] at hl ⊢
    simp only [Cx.push, upd]
    split
    · rename_i he
      exact ⟨rfl, hpr, xs, hp, hb.mono hce hgr⟩
    · rename_i he
      rw [if_neg he] at hl
      obtain ⟨h1, h2, ys, h3, h4⟩ := A.hx.blk b hl
      exact ⟨h1, h2, ys, h3, h4.mono hce hgr⟩
  · rw [hg_hs] at hbl hcl
    simp only [Cx.push, upd]
    by_cases h1 : id = b
    · have h2 : id ≠ c := fun e => hne2 (h1.symm.trans e)
      rw [if_pos h1, if_neg h2]
      rw [if_neg h2] at hcl
      exact (hne c hcl).symm
    · rw [if_neg h1] at hbl ⊢
      by_cases h2 : id = c
      · rw [if_pos h2]
        exact hne b hbl
      · rw [if_neg h2] at hcl ⊢
        exact A.hx.inj b c hbl hcl hne2
  · rw [hg_hs] at hl
    simp only [Cx.push, upd]
    split
    · exact hp0
    · rename_i hn; rw [if_neg hn] at hl; exact A.on b hb hl
  · have hn : id ≠ b := by omega
    rw [hg_hs, if_neg hn] at hl
    simp only [Cx.push, upd, if_neg hn]
    exact A.ob b hb hl
  · have hn : id ≠ b := by omega
    simp only [Cx.push, upd, if_neg hn]
    exact A.od b hb hl

/-- A call that may write what its caller owns. -/
theorem shared_sound {sh : Nat → Bool} {vc : VCalls} {mc : Calls_} (hsim : SimC sh vc mc) (A : Act base S0 h0 H0 pr S h H) {g : Nat} (hg : sh g = true) {base' : Nat} (hb' : base ≤ base') {vs : List Value} {args : List DV} (hargs : DRs S h vs args) {d : DV} {H1 : VHeap} (hc : vc g args H base' = some (d, H1)) :
    ∃ v h2 w, mc g vs h = some (v, some (h2, w)) ∧ Out base S0 h0 H0 pr S h v (some (h2, w)) d H1 := by
  have hprj : ∀ b, pr b → b < h.length ∧ ∀ c, (Cp.hg H c).live = true → b ≠ S.j c := fun b hb => ⟨A.plS b hb, fun c hc he => by subst he; exact (A.hx.blk c hc).2.1 hb⟩
  obtain ⟨v, hm, wm, S1, h1, hf, hw, A1, hdr⟩ := hsim g args H base' d H1 hc S (fun b => b < h.length ∧ ∀ c, (Cp.hg H c).live = true → b ≠ S.j c) h vs
    ⟨A.hx.n, A.hx.ver, fun b hb => by
      obtain ⟨k1, k2, k3⟩ := A.hx.blk b hb
      exact ⟨k1, fun hp => hp.2 b hb rfl, k3⟩, A.hx.inj⟩
    (fun b hb => hprj b (A.spS b hb)) (fun b hb => hb.1) hargs
  rw [if_pos hg] at h1
  refine ⟨v, hm, _, h1, ⟨⟨S1, ⟨⟨A1.hx.n, A1.hx.ver, fun b hb => ?_, A1.hx.inj⟩, A.ce.trans A1.ce, A.gr.trans A.ce A1.gr, A1.se.trans A.se, A.sp, A.pl, A.bn, fun b hb hl => ?_, fun b hb hl => ?_, fun b hb hl => ?_⟩, A1.ce, A1.gr, hdr⟩, fun h2 w he b hb hpr => ?_⟩⟩
  · obtain ⟨k1, k2, k3⟩ := A1.hx.blk b hb
    exact ⟨k1, fun hp => k2 (hprj _ hp), k3⟩
  · rcases Nat.lt_or_ge b base' with hlt | hge
    · obtain ⟨k1, k2⟩ := A1.ob b hlt hl
      rw [(A1.ce.same b (A.hx.lt k1) k2).1]
      exact A.on b hb k1
    · exact Nat.le_trans A.gr.len (A1.on b hge hl)
  · obtain ⟨k1, k2⟩ := A1.ob b (by omega) hl
    obtain ⟨k3, k4⟩ := A.ob b hb k1
    exact ⟨k3, k2.trans k4⟩
  · have hnl : (Cp.hg H b).live = false := by
      cases hh : (Cp.hg H b).live with
      | false => rfl
      | true => rw [(A.ob b hb hh).1] at hl; cases hl
    exact (A1.od b (by omega) hnl).trans (A.od b hb hl)
  · simp at he; obtain ⟨_, rfl⟩ := he
    exact hw b (List.mem_filter.1 hb).1 (hprj b hpr)

/-- A call that can't write what its caller owns. -/
theorem pure_sound {sh : Nat → Bool} {vc : VCalls} {mc : Calls_} (hsim : SimC sh vc mc) (A : Act base S0 h0 H0 pr S h H) {g : Nat} (hsg : sh g = false) {vs : List Value} {args args' : List DV} (hargs : DRs S h vs args) (hfz : mapO (frzD H 6) args = some args') {d : DV} {H1 : VHeap} (hc : vc g args' [] 0 = some (d, H1))
    {dst : Option Nat} {frz : Bool} {d' : DV} {ef' : VEff} (hb : vback H H1 (dst.map (base + ·)) (closedL args) frz d = some (d', ef')) :
    ∃ v ef, (mc g vs h).map (fun r => (r.1, match r.2 with
          | none => none
          | some (h', w) => some (if frz then frzFrom h.length h' else h', w))) = some (v, ef) ∧ (ef' = none → ef = none) ∧ Out base S0 h0 H0 pr S h v ef d' (ef'.getD H) ∧ ∀ h2 w, ef = some (h2, w) → w = [] := by
  have hst : ∀ b, S.st b → b < h.length := fun b hb => A.plS b (A.spS b hb)
  let Sc : Cx := ⟨0, fun _ => 0, fun _ => 0, fun _ => 0, fun b => if closedL args = true then S.st b else b < h.length⟩
  have hSc : ∀ b, Sc.st b → b < h.length := by
    intro b hb
    simp only [Sc] at hb
    split at hb
    · exact hst b hb
    · exact hb
  have hSc2 : ∀ b, b < h.length → (closedL args = true → S.st b) → Sc.st b := by
    intro b h1 h2
    simp only [Sc]
    split
    · rename_i h; exact h2 h
    · exact h1
  have hSc3 : closedL args = true → ∀ b, Sc.st b → S.st b := by
    intro h b hb
    simp only [Sc, if_pos h] at hb; exact hb
  have hxe : HX Sc (fun b => b < h.length) h [] := ⟨rfl, fun b => by simp [hg, gt_nil, Sc], fun b hb => by simp [hg, gt_nil] at hb, fun b c hb => by simp [hg, gt_nil] at hb⟩
  -- trees that the caller sees are seen by the callee
  have hup : ∀ v d, closedD d = true → DR S h v d → DR Sc h v d := by
    intro v d hcl hr
    refine hr.tree hcl (fun b hb => ?_) (fun b ro e xs _ hx => ⟨ro, hx⟩)
    rcases hb with hb | hb
    · exact .inl (hSc2 b (hst b hb) (fun _ => hb))
    · exact .inr hb
  have hargs' : DRs Sc h vs args' := by
    by_cases hcl : closedL args = true
    · -- nothing was changed
      obtain ⟨m1, m2⟩ := mapO_some hfz
      have hid : ∀ (n : Nat) (d d' : DV), closedD d = true → frzD H n d = some d' → d' = d := by
        intro n
        induction n with
        | zero => intro d d' _ h; simp [frzD] at h
        | succ n ih =>
          intro d d' hc h
          have hl : ∀ (l m : List DV), closedL l = true → mapO (frzD H n) l = some m → m = l := by
            intro l m hc hm
            obtain ⟨k1, k2⟩ := mapO_some hm
            apply List.ext_getElem?
            intro i
            by_cases hi : i < l.length
            · have e1 := List.getElem?_eq_getElem hi
              have e2 := List.getElem?_eq_getElem (show i < m.length by omega)
              rw [e1, e2, ih _ _ (closedL_mem hc e1) (k2 i _ _ e1 e2)]
            · rw [List.getElem?_eq_none (by omega), List.getElem?_eq_none (by omega)]
          simp only [frzD] at h
          split at h
          · simp [closedD] at hc
          · simp only [Option.map_eq_some_iff] at h
            obtain ⟨m, h1, rfl⟩ := h
            rw [hl _ _ (by simpa [closedD] using hc) h1]
          · simp only [Option.map_eq_some_iff] at h
            obtain ⟨m, h1, rfl⟩ := h
            rw [hl _ _ (by simpa [closedD] using hc) h1]
          · simp only [Option.map_eq_some_iff] at h
            obtain ⟨m, h1, rfl⟩ := h
            rw [hl _ _ (by simpa [closedD] using hc) h1]
          · simp [closedD] at hc
          · simp [closedD] at hc
          · simp at h; exact h.symm
      have hee : args' = args := by
        apply List.ext_getElem?
        intro i
        by_cases hi : i < args.length
        · have e1 := List.getElem?_eq_getElem hi
          have e2 := List.getElem?_eq_getElem (show i < args'.length by omega)
          rw [e1, e2, hid _ _ _ (closedL_mem hcl e1) (m2 i _ _ e1 e2)]
        · rw [List.getElem?_eq_none (by omega), List.getElem?_eq_none (by omega)]
      rw [hee]
      exact ⟨hargs.1, fun i v d e1 e2 => hup v d (closedL_mem hcl e2) (hargs.2 i v d e1 e2)⟩
    · have := (mapO_rel (T := fun _ => True) hargs (fun _ _ => trivial) hfz (fun v d d' _ hr hf => frz_gen (S' := Sc) (h' := h) A.hx (Heir.all H) (fun b hb => ⟨.inl (hSc2 _ (A.hx.jlt hb) (fun h => absurd h hcl)), fun e xs hx => ⟨_, hx⟩⟩)
        (fun v d _ hcl hr => hup v d hcl hr) 6 v d d' trivial hr hf)).1
      exact this
  obtain ⟨v, hm, wm, S1, h1, hf, hw, A1, hdr⟩ := hsim g args' [] 0 d H1 hc Sc (fun b => b < h.length) h vs hxe hSc (fun b hb => hb) hargs'
  have hwe : wm.filter (fun b => decide (b < h.length)) = [] := by
    apply List.filter_eq_nil_iff.2
    intro b hb
    simpa using hw b hb
  have hsame : ∀ b, b < h.length → hm[b]? = h[b]? := fun b hb => hf.get b hb (fun hm => hw b hm hb)
  have hgc : gc h (v, hm, wm) = if noNew 0 v = true then (v, none) else (v, some (hm, [])) := by
    unfold gc
    simp only [hwe, List.all_nil, Bool.and_true]
    split <;> simp_all
  rw [h1, if_neg (by simp [hsg]), hgc]
  have hS1st : ∀ b, S1.st b → Sc.st b := fun b hb => by rw [A1.se] at hb; exact hb
  have hjge : ∀ b, (hg H1 b).live = true → h.length ≤ S1.j b := fun b hb => A1.on b (by simp) hb
  unfold vback at hb
  split at hb
  · -- frozen
    rename_i hfrz
    subst hfrz
    split at hb
    · rename_i hcf
      simp only [Option.map_eq_some_iff, Prod.mk.injEq] at hb
      obtain ⟨d2, hf2, rfl, rfl⟩ := hb
      have hgd : ∀ c : Bool, ((if c then none else some H : VEff).getD H) = H := by intro c; cases c <;> rfl
      rw [hgd]
      by_cases hv : noNew 0 v = true
      · rw [if_pos hv]
        refine ⟨v, none, rfl, fun _ => rfl, .quiet A ?_, by simp⟩
        let Sa : Cx := ⟨S1.n, S1.j, S1.ver, S1.e, fun _ => True⟩
        have := (frz_gen (S' := Sa) (h' := hm) A1.hx (Heir.all H1) (fun b hb => ⟨.inl trivial, fun e xs hx => ⟨_, hx⟩⟩) (fun v d _ hcl hr => hr.tree hcl (fun b _ => .inl trivial) (fun b ro e xs _ hx => ⟨ro, hx⟩)) 6 v d d2 trivial hdr hf2).1
        exact this.noNew0 hv
      · rw [if_neg hv]
        refine ⟨v, some (frzFrom h.length hm, []), rfl, fun he => ?_, ?_, fun h2 w he => by simp at he; exact he.2⟩
        · exfalso
          split at he
          · rename_i hl; exact hv (hdr.lits_noNew hl)
          · simp at he
        · have hlen : (frzFrom h.length hm).length = hm.length := by simp [frzFrom]; have := hf.len; omega
          have hlow : ∀ b, b < h.length → (frzFrom h.length hm)[b]? = hm[b]? := by
            intro b hb
            unfold frzFrom
            rw [List.getElem?_append_left (by simp; have := hf.len; omega), List.getElem?_take, if_pos hb]
          have hhigh : ∀ b, h.length ≤ b → (frzFrom h.length hm)[b]? = (hm[b]?).map frzBlk := by
            intro b hb
            unfold frzFrom
            have := hf.len
            rw [List.getElem?_append_right (by simp; omega), List.getElem?_map, List.getElem?_drop]
            congr 2
            simp; omega
          have hcell : ∀ (b : Nat) (ro : Bool) (e : Nat) (xs : List Value), hm[b]? = some (Blk.cells ro e xs) → ∃ ro', (frzFrom h.length hm)[b]? = some (Blk.cells ro' e xs) := by
            intro b ro e xs hx
            rcases Nat.lt_or_ge b h.length with hb | hb
            · exact ⟨ro, by rw [hlow b hb]; exact hx⟩
            · exact ⟨true, by rw [hhigh b hb, hx]; rfl⟩
          have hro : ∀ b : Nat, (∃ (e : Nat) (xs : List Value), hm[b]? = some (Blk.cells true e xs)) → ∃ (e : Nat) (xs : List Value), (frzFrom h.length hm)[b]? = some (Blk.cells true e xs) := by
            rintro b ⟨e, xs, hx⟩
            rcases Nat.lt_or_ge b h.length with hb | hb
            · exact ⟨e, xs, by rw [hlow b hb]; exact hx⟩
            · exact ⟨e, xs, by rw [hhigh b hb, hx]; rfl⟩
          have hA : Act base S0 h0 H0 pr S (frzFrom h.length hm) H := A.ext (by rw [hlen]; exact hf.len) (fun b hb => by rw [hlow b hb]; exact hsame b hb)
          have hG : Grw S h (frzFrom h.length hm) := .ext hst (by rw [hlen]; exact hf.len) (fun b hb => by rw [hlow b hb]; exact hsame b hb)
          have hown : ∀ b, (hg H1 b).live = true → Stb S (frzFrom h.length hm) (S1.j b) ∧ ∀ e xs, hm[S1.j b]? = some (.cells false e xs) → ∃ ro, (frzFrom h.length hm)[S1.j b]? = some (.cells ro e xs) := by
            intro b hb
            refine ⟨?_, fun e xs hx => hcell _ _ _ _ hx⟩
            obtain ⟨_, _, xs, hx, _⟩ := A1.hx.blk b hb
            exact .inr ⟨_, xs, by rw [hhigh _ (hjge b hb), hx]; rfl⟩
          refine ⟨⟨S, hA, .refl _, hG, ?_⟩, fun h2 w he => by simp at he; obtain ⟨_, rfl⟩ := he; simp⟩
          simp only [Bool.or_eq_true] at hcf
          rcases hcf with hcl | hfr
          · refine (frz_gen (S' := S) (h' := frzFrom h.length hm) A1.hx (Heir.all H1) hown (fun v d _ hcl2 hr => hr.tree hcl2 (fun b hb => ?_) (fun b ro e xs _ hx => hcell b ro e xs hx)) 6 v d d2 trivial hdr hf2).1
            rcases hb with hb | hb
            · exact .inl (hSc3 hcl b (hS1st b hb))
            · exact .inr (hro b hb)
          · exact (frz_gen (S' := S) (h' := frzFrom h.length hm) A1.hx (Heir.fresh H1) hown (fun v d ht hcl2 hr => by obtain ⟨m, hm⟩ := ht; exact fresh_lit hm hcl2 hr) 6 v d d2 ⟨6, hfr⟩ hdr hf2).1
    · simp at hb
  · rename_i hfrz
    have hfrz : frz = false := by cases frz <;> simp_all
    subst hfrz
    have hA : Act base S0 h0 H0 pr S hm H := A.ext hf.len hsame
    have hG : Grw S h hm := .ext hst hf.len hsame
    -- what lies in a new block, closed
    have hcont : ∀ v d, closedD d = true → (closedL args = true ∨ lit1 d = true) → DR S1 hm v d → DR S hm v d := by
      intro v d hcl hor hr
      rcases hor with hca | hl
      · refine hr.tree hcl (fun b hb => ?_) (fun b ro e xs _ hx => ⟨ro, hx⟩)
        rcases hb with hb | hb
        · exact .inl (hSc3 hca b (hS1st b hb))
        · exact .inr hb
      · exact hr.lit1 hl
    split at hb
    · rename_i b ver
      split at hb
      · rename_i el hel
        split at hb
        · rename_i hcnd
          obtain ⟨c1, c2, c3, c4⟩ := hcnd
          obtain ⟨hl, hv, hi, xs, k1, k2, k3⟩ := A1.hx.at_ hel
          obtain ⟨q1, q2, ys, q3, q4⟩ := A1.hx.blk b hl
          obtain ⟨a, rfl, _, _, ha⟩ := hdr.mp_inv
          rw [if_neg (by simp [noNew, lf2, lf])]
          obtain ⟨id, hid, rfl, rfl⟩ := newB_inv hb
          rw [ha hv]
          have he0 : S1.e b = 0 := by rw [← q1]; exact c2
          have hL : (hg H1 b).L = [el] := by
            cases hLL : (hg H1 b).L with
            | nil => rw [hLL] at c1; simp at c1
            | cons x l =>
              rw [hLL] at c1 hi
              simp at c1 hi
              rw [c1, hi]
          rw [he0] at q3
          have hbr : BR S hm 0 [el] ys := by
            refine ⟨.inr ⟨rfl, _, rfl⟩, ?_⟩
            have := q4.rs
            rw [hL] at this
            refine ⟨this.1, fun i v d e1 e2 => hcont v d ?_ ?_ (this.2 i v d e1 e2)⟩
            · exact closedL_mem c3 (by simpa using e2)
            · simp only [Bool.or_eq_true, List.all_eq_true] at c4
              rcases c4 with h | h
              · exact .inl h
              · exact .inr (h d (List.mem_of_getElem? (by simpa using e2)))
          have hpge := hjge b hl
          have hadopt := hA.adopt (id := id) (by cases dst <;> simp_all [newB]; omega) q3 (fun hp => by have := A.plS _ hp; omega) (Nat.le_trans A.gr.len hpge) (fun c hc => by have := A.hx.jlt hc; omega) hbr
          refine ⟨_, _, rfl, by simp, ⟨⟨_, hadopt, .push S id _ _, hG, ?_⟩, fun h2 w he => by simp at he; obtain ⟨_, rfl⟩ := he; simp⟩, fun h2 w he => by simp at he; exact he.2⟩
          simp only [hof2]
          refine .mp _ _ _ _ _ (by simp [Cx.push]; omega) (by simp [Cx.push, upd, A.hx.ver]) (fun _ => by simp [Cx.push, upd, he0])
        · simp at hb
      · simp at hb
    · rename_i b ver l c
      split at hb
      · rename_i hcnd
        obtain ⟨c1, c2, c3, c4, c5, c6⟩ := hcnd
        obtain ⟨q1, q2, ys, q3, q4⟩ := A1.hx.blk b c1
        obtain ⟨a, rfl, _, _, ha⟩ := hdr.ms_inv
        rw [if_neg (by simp [noNew, lf2, lf])]
        obtain ⟨id, hid, rfl, rfl⟩ := newB_inv hb
        rw [ha (by rw [← A1.hx.ver]; exact c2.symm)]
        have hbr : BR S hm (S1.e b) (hg H1 b).L ys := by
          refine ⟨q4.ok, q4.rs.1, fun i v d e1 e2 => hcont v d ?_ ?_ (q4.rs.2 i v d e1 e2)⟩
          · obtain ⟨el, m1, m2⟩ := List.mem_flatten.1 (List.mem_of_getElem? e2)
            exact closedL_iff.1 (List.all_eq_true.1 c5 el m1) d m2
          · simp only [Bool.or_eq_true, List.all_eq_true] at c6
            rcases c6 with h | h
            · exact .inl h
            · obtain ⟨el, m1, m2⟩ := List.mem_flatten.1 (List.mem_of_getElem? e2)
              exact .inr (h el m1 d m2)
        have hpge := hjge b c1
        have hadopt := hA.adopt (id := id) (by cases dst <;> simp_all [newB]; omega) q3 (fun hp => by have := A.plS _ hp; omega) (Nat.le_trans A.gr.len hpge) (fun c hc => by have := A.hx.jlt hc; omega) hbr
        rw [← q1] at hadopt
        refine ⟨_, _, rfl, by simp, ⟨⟨_, hadopt, .push S id _ _, hG, ?_⟩, fun h2 w he => by simp at he; obtain ⟨_, rfl⟩ := he; simp⟩, fun h2 w he => by simp at he; exact he.2⟩
        simp only [hof2]
        refine .ms _ _ _ _ _ _ (by simp [Cx.push]; omega) (by simp [Cx.push, upd, A.hx.ver]) (fun _ => by simp [Cx.push, upd])
      · simp at hb
    · split at hb
      case isFalse => simp at hb
      rename_i hcl
      simp only [Option.some.injEq, Prod.mk.injEq] at hb
      obtain ⟨rfl, rfl⟩ := hb
      have hG0 : DR S hm v (.sl []) := hcont _ _ rfl (.inl hcl) hdr
      by_cases hv : noNew 0 v = true
      · rw [if_pos hv]
        exact ⟨v, none, rfl, fun _ => rfl, .quiet A (hG0.noNew0 hv), by simp⟩
      · rw [if_neg hv]
        exact ⟨v, some (hm, []), rfl, by simp, ⟨⟨S, hA, .refl _, hG, hG0⟩, fun h2 w he => by simp at he; obtain ⟨_, rfl⟩ := he; simp⟩, fun h2 w he => by simp at he; exact he.2⟩
    · split at hb
      · rename_i hl
        simp only [Bool.or_eq_true] at hl
        simp at hb; obtain ⟨rfl, rfl⟩ := hb
        rcases hl with hl | hl
        · rw [if_pos (hdr.lits_noNew hl)]
          exact ⟨v, none, rfl, fun _ => rfl, .quiet A (hdr.lits hl), by simp⟩
        · have hn : noNew 0 v = true ∧ ∀ (S' : Cx) (h' : Heap), DR S' h' v d := by
            clear hG hA A1 h1 hcont hjge hS1st hgc
            unfold nilD at hl
            split at hl
            · rename_i d0 l c
              have hv0 := nilS_inv hdr
              have hs := hdr.lit_inv.2
              have hh := hdr.lit_inv.1
              subst hv0
              refine ⟨by simp [noNew, lf2, lf], fun S' h' => ?_⟩
              simp only [Value.slice.injEq, true_and] at hh
              obtain ⟨rfl, rfl⟩ := hh
              exact .lit _ rfl
            · simp at hl
          rw [if_pos hn.1]
          exact ⟨v, none, rfl, fun _ => rfl, .quiet A (hn.2 _ _), by simp⟩
      · simp at hb

theorem vcall_sound {nt : Nat} {vc : VCalls} {mc : Calls_} {sh : Nat → Bool} (hsim : SimC sh vc mc) (A : Act base S0 h0 H0 pr S h H) {dst : Option Nat} {d : DV} {ef' : VEff} (g : Nat) (args : List DV) (frz : Bool) (vs : List Value) (hargs : DRs S h vs args)
    (hc : vcall vc sh base nt dst g args frz H = some (d, ef')) : ∃ v ef, (mc g vs h).map (fun r => (r.1, match r.2 with
          | none => none
          | some (h', w) => some (if frz then frzFrom h.length h' else h', w))) = some (v, ef) ∧ (ef' = none → ef = none) ∧ Out base S0 h0 H0 pr S h v ef d (ef'.getD H) := by
  unfold vcall at hc
  split at hc
  · rename_i hs
    split at hc
    · simp at hc
    · have hfrz : frz = false := by cases frz <;> simp_all
      subst hfrz
      simp only [Option.map_eq_some_iff, Prod.mk.injEq] at hc
      obtain ⟨⟨d0, H1⟩, h1, rfl, rfl⟩ := hc
      obtain ⟨v, h2, w, h3, h4⟩ := shared_sound hsim A hs (by omega) hargs h1
      refine ⟨v, some (h2, w), ?_, by simp, h4⟩
      rw [h3]; rfl
  · rename_i hs
    simp only [Option.bind_eq_some_iff] at hc
    obtain ⟨args', h1, ⟨d0, H1⟩, h2, h3⟩ := hc
    obtain ⟨v, ef, k1, k2, k3, _⟩ := pure_sound hsim A (by simpa using hs) hargs h1 h2 h3
    exact ⟨v, ef, k1, k2, k3⟩
end Go.Proofs.Cp
