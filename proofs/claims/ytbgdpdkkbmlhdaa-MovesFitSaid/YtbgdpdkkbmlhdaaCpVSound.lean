/- What the second machine answers, the first answers. No program in sight. -/
import Derived.Test.YtbgdpdkkbmlhdaaCpVE
set_option linter.unusedSimpArgs false
set_option linter.unusedVariables false
namespace Go.Proofs.Cp
open Go
variable {base : Nat} {S0 : Cx} {h0 : Heap} {H0 : VHeap} {pr : Nat → Prop}

def RS (base : Nat) (S0 : Cx) (h0 : Heap) (H0 : VHeap) (pr : Nat → Prop) (s : St) (t : VSt) : Prop :=
  ∃ S, Act base S0 h0 H0 pr S s.heap t.H ∧ ERel S s.heap s.env t.E ∧ ∀ b, b ∈ s.wrs → ¬ pr b
section
variable {nt : Nat} {vc : VCalls} {mc : Calls_} {sh : Nat → Bool} (hsim : SimC sh vc mc)
include hsim
theorem vop_sound {o : IOper} {s : St} {t t' : VSt} (hr : RS base S0 h0 H0 pr s t) (hv : vop vc sh base nt o t = some t') : ∃ s', runOp mc o s = some s' ∧ RS base S0 h0 H0 pr s' t' := by
  obtain ⟨S, A, hE, hw⟩ := hr
  unfold vop at hv
  split at hv
  · rename_i hwt
    simp only [Option.map_eq_some_iff] at hv
    obtain ⟨⟨d, ef'⟩, h1, rfl⟩ := hv
    obtain ⟨v, ef, h2, _, ⟨S', A', hx, hg, hd⟩, hws⟩ := viop_sound A hE (fun g args frz vs ha hc => vcall_sound hsim A g args frz vs ha hc) h1
    unfold runOp
    rw [vwants_rel hE hwt, if_pos rfl, h2]
    refine ⟨_, rfl, S', ?_, ?_, ?_⟩
    · cases ef with
      | none => exact A'
      | some r => exact A'
    · cases ef with
      | none => exact (hE.mono hx hg).set _ hd
      | some r => exact (hE.mono hx hg).set _ hd
    · cases ef with
      | none => exact hw
      | some r =>
        obtain ⟨h3, w⟩ := r
        intro b hb
        simp only [St.eff] at hb
        rcases mem_addW.1 hb with hb | hb
        · exact hws h3 w rfl b hb
        · exact hw b hb
  · rename_i hwt
    simp at hv; subst hv
    unfold runOp
    rw [vwants_rel hE hwt, if_neg (by simp)]
    exact ⟨_, rfl, S, A, hE.set _ (.tup #[] [] rfl (fun i v d h => by simp at h)), hw⟩
  · simp at hv
theorem vops_sound : ∀ {os : List IOper} {s : St} {t t' : VSt}, RS base S0 h0 H0 pr s t → vops vc sh base nt os t = some t' → ∃ s', runOps mc os s = some s' ∧ RS base S0 h0 H0 pr s' t'
  | [], s, t, t', hr, hv => by simp [vops] at hv; subst hv; exact ⟨s, rfl, hr⟩
  | o :: os, s, t, t', hr, hv => by
    simp only [vops, Option.bind_eq_some_iff] at hv
    obtain ⟨t1, h1, h2⟩ := hv
    obtain ⟨s1, h3, h4⟩ := vop_sound hsim hr h1
    obtain ⟨s2, h5, h6⟩ := vops_sound h4 h2
    exact ⟨s2, by simp [runOps, h3, h5], h6⟩
theorem vopD_sound {o : IOper} {e : Env} {E E' : List DV} {h : Heap} {H : VHeap} {S : Cx} (A : Act base S0 h0 H0 pr S h H) (hE : ERel S h e E) (hv : vopD vc sh base nt o E H = some E') :
    ∃ e', runOpD mc o e h = some e' ∧ ∃ S', Act base S0 h0 H0 pr S' h H ∧ ERel S' h e' E' := by
  unfold vopD at hv
  split at hv
  · rename_i hwt
    split at hv
    · rename_i d h1
      simp at hv; subst hv
      obtain ⟨v, ef, h2, he, ⟨S', A', hx, hg, hd⟩, hws⟩ := viop_sound A hE (fun g args frz vs ha hc => vcall_sound hsim A g args frz vs ha hc) h1
      have := he rfl; subst this
      unfold runOpD
      rw [vwants_rel hE hwt, if_pos rfl, h2]
      exact ⟨_, rfl, S', A', (hE.mono hx hg).set _ hd⟩
    · simp at hv
  · rename_i hwt
    simp at hv; subst hv
    unfold runOpD
    rw [vwants_rel hE hwt, if_neg (by simp)]
    exact ⟨_, rfl, S, A, hE.set _ (.tup #[] [] rfl (fun i v d h => by simp at h))⟩
  · simp at hv
theorem vopsD_sound : ∀ {os : List IOper} {e : Env} {E E' : List DV} {h : Heap} {H : VHeap} {S : Cx}, Act base S0 h0 H0 pr S h H → ERel S h e E → vopsD vc sh base nt os E H = some E' →
    ∃ e', runOpsD mc os e h = some e' ∧ ∃ S', Act base S0 h0 H0 pr S' h H ∧ ERel S' h e' E'
  | [], e, E, E', h, H, S, A, hE, hv => by simp [vopsD] at hv; subst hv; exact ⟨e, rfl, S, A, hE⟩
  | o :: os, e, E, E', h, H, S, A, hE, hv => by
    simp only [vopsD, Option.bind_eq_some_iff] at hv
    obtain ⟨E1, h1, h2⟩ := hv
    obtain ⟨e1, h3, S1, A1, hE1⟩ := vopD_sound hsim A hE h1
    obtain ⟨e2, h5, h6⟩ := vopsD_sound A1 hE1 h2
    exact ⟨e2, by simp [runOpsD, h3, h5], h6⟩
theorem vrun_sound {k : Nat} : ∀ {c : ICode} {s : St} {t t' : VSt} {x : Ex}, RS base S0 h0 H0 pr s t → vrun vc sh base nt k c t = some (x, t') → ∃ s', run mc k c s = some (x, s') ∧ RS base S0 h0 H0 pr s' t'
  | .skip, s, t, t', x, hr, hv => by simp [vrun] at hv; obtain ⟨rfl, rfl⟩ := hv; exact ⟨s, rfl, hr⟩
  | .reg false ops, s, t, t', x, hr, hv => by
    simp only [vrun, Option.map_eq_some_iff, Prod.mk.injEq] at hv
    obtain ⟨t1, h1, rfl, rfl⟩ := hv
    obtain ⟨s', h2, h3⟩ := vops_sound hsim hr h1
    exact ⟨s', by simp [run, h2], h3⟩
  | .reg true ops, s, t, t', x, hr, hv => by
    simp only [vrun, Option.map_eq_some_iff, Prod.mk.injEq] at hv
    obtain ⟨E1, h1, rfl, rfl⟩ := hv
    obtain ⟨S, A, hE, hw⟩ := hr
    obtain ⟨e', h2, S', A', hE'⟩ := vopsD_sound hsim A hE h1
    exact ⟨⟨e', s.heap, s.wrs⟩, by simp [run, h2], S', A', hE', hw⟩
  | .rgE ops, s, t, t', x, hr, hv => by
    simp only [vrun] at hv
    obtain ⟨S, A, hE, hw⟩ := hr
    obtain ⟨s', h1, S', A', hE', hw'⟩ := vrgE_sound hsim (k := k) A hE hw hv
    exact ⟨s', h1, S', A', hE', hw'⟩
  | .seq a b, s, t, t', x, hr, hv => by
    simp only [vrun, Option.bind_eq_some_iff] at hv
    obtain ⟨⟨y, t1⟩, h1, h2⟩ := hv
    obtain ⟨s1, h3, h4⟩ := vrun_sound hr h1
    cases y with
    | normal =>
      obtain ⟨s2, h5, h6⟩ := vrun_sound h4 h2
      exact ⟨s2, by simp [run, h3, h5], h6⟩
    | exit id => simp at h2; obtain ⟨rfl, rfl⟩ := h2; exact ⟨s1, by simp [run, h3], h4⟩
    | ret => simp at h2; obtain ⟨rfl, rfl⟩ := h2; exact ⟨s1, by simp [run, h3], h4⟩
  | .cond c a b, s, t, t', x, hr, hv => by
    simp only [vrun] at hv
    have hE : ∀ c', vev t.E c = .lit (.bool c') → ev s.env c = .bool c' := by
      intro c' hc
      obtain ⟨S, A, hE, hw⟩ := hr
      have := hE.ev c; rw [hc] at this; exact this.bool_inv
    split at hv
    · rename_i hc
      obtain ⟨s', h1, h2⟩ := vrun_sound hr hv
      exact ⟨s', by simp [run, hE _ hc, h1], h2⟩
    · rename_i hc
      obtain ⟨s', h1, h2⟩ := vrun_sound hr hv
      exact ⟨s', by simp [run, hE _ hc, h1], h2⟩
    · simp at hv
  | .block id c, s, t, t', x, hr, hv => by
    simp only [vrun, Option.map_eq_some_iff] at hv
    obtain ⟨⟨y, t1⟩, h1, h2⟩ := hv
    obtain ⟨s1, h3, h4⟩ := vrun_sound hr h1
    cases y with
    | normal => simp at h2; obtain ⟨rfl, rfl⟩ := h2; exact ⟨s1, by simp [run, h3], h4⟩
    | exit i => simp at h2; obtain ⟨rfl, rfl⟩ := h2; exact ⟨s1, by simp [run, h3], h4⟩
    | ret => simp at h2; obtain ⟨rfl, rfl⟩ := h2; exact ⟨s1, by simp [run, h3], h4⟩
  | .loop c, s, t, t', x, hr, hv => by
    simp only [vrun] at hv
    have key : ∀ (n : Nat) (s : St) (t : VSt), RS base S0 h0 H0 pr s t → viter (vrun vc sh base nt k c) n t = some (x, t') → ∃ s', iter (run mc k c) n s = some (x, s') ∧ RS base S0 h0 H0 pr s' t' := by
      intro n
      induction n with
      | zero => intro s t _ h; simp [viter] at h
      | succ n ih =>
        intro s t hr h
        simp only [viter, Option.bind_eq_some_iff] at h
        obtain ⟨⟨y, t1⟩, h1, h2⟩ := h
        obtain ⟨s1, h3, h4⟩ := vrun_sound hr h1
        cases y with
        | normal =>
          obtain ⟨s2, h5, h6⟩ := ih s1 t1 h4 h2
          exact ⟨s2, by simp [iter, h3, h5], h6⟩
        | exit id => simp at h2; obtain ⟨rfl, rfl⟩ := h2; exact ⟨s1, by simp [iter, h3], h4⟩
        | ret => simp at h2; obtain ⟨rfl, rfl⟩ := h2; exact ⟨s1, by simp [iter, h3], h4⟩
    exact key k s t hr hv
  | .exit id, s, t, t', x, hr, hv => by simp [vrun] at hv; obtain ⟨rfl, rfl⟩ := hv; exact ⟨s, rfl, hr⟩
  | .ret, s, t, t', x, hr, hv => by simp [vrun] at hv; obtain ⟨rfl, rfl⟩ := hv; exact ⟨s, rfl, hr⟩
end
theorem vres_rel {S : Cx} {h : Heap} {H : VHeap} {e : Env} {E : List DV} (hx : HX S pr h H) (hE : ERel S h e E) {r : IRes} {d : DV} (hv : vres E H r = some d) : ∃ v, resOf e h r = some v ∧ DR S h v d := by
  cases r with
  | t n => simp [vres] at hv; subst hv; exact ⟨_, rfl, hE n⟩
  | c1 n =>
    simp only [vres] at hv
    split at hv
    · rename_i l hl
      have := hE n; rw [hl] at this
      obtain ⟨b, o, he, h1, _⟩ := this.rp_ld
      cases l with
      | nil => simp at hv
      | cons x l =>
        simp at hv; subst hv
        obtain ⟨vs, h2, h3⟩ := h1 0 1 (by simp)
        obtain ⟨v, h4, h5⟩ := h3.get (i := 0) (d := x) rfl
        have := ld1_ldN h2 h4
        simp only [Nat.add_zero] at this
        exact ⟨v, by simp [resOf, he, this], h5⟩
    · rename_i b ver i k hl
      have := hE n; rw [hl] at this
      obtain ⟨p, he, _, _, hp⟩ := this.mp_inv
      simp only [Option.bind_eq_some_iff] at hv
      obtain ⟨el, hel, hd⟩ := hv
      obtain ⟨hver, v, h1, h2⟩ := at_ld1 hx hel hd
      have := hp hver; subst this
      exact ⟨v, by simp [resOf, he, h1], h2⟩
    · simp at hv
  | cN m n =>
    simp only [vres] at hv
    split at hv
    · rename_i l hl
      have := hE n; rw [hl] at this
      obtain ⟨b, o, he, h1, _⟩ := this.rp_ld
      split at hv
      · rename_i hle
        simp at hv; subst hv
        obtain ⟨vs, h2, h3⟩ := h1 0 m (by omega)
        simp only [Nat.add_zero] at h2
        exact ⟨_, by simp [resOf, he, h2], .aggL h3⟩
      · simp at hv
    · rename_i b ver i k hl
      have := hE n; rw [hl] at this
      obtain ⟨p, he, _, _, hp⟩ := this.mp_inv
      simp only [Option.bind_eq_some_iff] at hv
      obtain ⟨el, hel, hv⟩ := hv
      split at hv
      · rename_i hle
        simp at hv; subst hv
        obtain ⟨hver, vs, h1, h2⟩ := at_ld hx hel hle
        have := hp hver; subst this
        exact ⟨_, by simp [resOf, he, h1], .aggL h2⟩
      · simp at hv
    · simp at hv
theorem vresL_rel {S : Cx} {h : Heap} {H : VHeap} {e : Env} {E : List DV} (hx : HX S pr h H) (hE : ERel S h e E) : ∀ {rs : List IRes} {ds : List DV}, vresL E H rs = some ds → ∃ vs, resL e h rs = some vs ∧ DRs S h vs ds
  | [], ds, hv => by simp [vresL] at hv; subst hv; exact ⟨[], rfl, .nil⟩
  | r :: rs, ds, hv => by
    simp only [vresL, Option.bind_eq_some_iff, Option.map_eq_some_iff] at hv
    obtain ⟨d, h1, ds', h2, rfl⟩ := hv
    obtain ⟨v, h3, h4⟩ := vres_rel hx hE h1
    obtain ⟨vs, h5, h6⟩ := vresL_rel hx hE h2
    exact ⟨v :: vs, by simp [resL, h3, h5], .cons h4 h6⟩
theorem vtup_rel {S : Cx} {h : Heap} {vs : List Value} {ds : List DV} (hr : DRs S h vs ds) : DR S h (tup vs) (vtup ds) := by
  have hl := hr.1
  match vs, ds with
  | [], [] => exact .tup #[] [] rfl (fun i v d h => by simp at h)
  | [v], [d] => exact hr.head
  | v :: w :: vs, d :: e :: ds =>
    simp only [tup, vtup]
    exact .tup _ _ (by simpa using hl) (by simpa using hr.2)
  | [], _ :: _ => simp at hl
  | _ :: _, [] => simp at hl
  | [v], _ :: _ :: _ => simp at hl
  | _ :: _ :: _, [d] => simp at hl
theorem vmach_sound {P : Prog} {X : Calls_} {sh : Nat → Bool} (hX : CallFr X) : ∀ k, SimC sh (vmach P sh k) (mach P X k)
  | 0 => by intro f ds H base d H1 h; simp [vmach] at h
  | k + 1 => by
    intro f ds H base d H1 hv S pr h vs hx hsp hpl hds
    simp only [vmach, vstep] at hv
    split at hv
    · simp at hv
    · rename_i fn hfn
      split at hv
      case isFalse => simp at hv
      rename_i hiso
      split at hv
      · rename_i hq
        split at hv
        case isFalse => simp at hv
        rename_i hbase
        simp only [Option.some.injEq, Prod.mk.injEq] at hv
        obtain ⟨rfl, rfl⟩ := hv
        simp only [clq, Bool.and_eq_true] at hq
        obtain ⟨e, e2, b2, rfl⟩ := cloneB_eq hq.1
        have := sl0B_eq hq.2; subst this
        have A0 := Act.start hx hsp hpl hbase
        have hlen : vs.length = 1 := hds.1
        obtain ⟨v0, rfl⟩ : ∃ v0, vs = [v0] := by
          cases vs with
          | nil => simp at hlen
          | cons v0 vs => cases vs with
            | nil => exact ⟨v0, rfl⟩
            | cons _ _ => simp at hlen
        rcases hds.head.sl_inv with ⟨⟨a, rfl⟩, _⟩ | ⟨b, o, e', c, rfl, hc, _⟩
        · cases a with
          | none =>
            have hrf : runFun (mach P X k) k (cloneF e e2 b2) [.slice none 0 0] h = some (.slice none 0 0, h, []) := by
              simp [runFun, cloneF, run, runOps, runOp, wants, iop, ev, get, set, setO, St.eff, eqN, resL, resOf, tup]
            refine ⟨.slice none 0 0, h, [], S, ?_, runFun_fr (mach_fr hX k) hrf, by simp, A0, .slnil⟩
            simp only [mach, hfn, stepF, hrf, Option.map_some]
            rw [← hiso]; rfl
          | some a =>
            have hrf : runFun (mach P X k) k (cloneF e e2 b2) [.slice (some a) 0 0] h = some (.slice (some ⟨h.length, 0, none⟩) 0 0, h ++ [.cells false e []], []) := by
              simp [runFun, cloneF, run, runOps, runOp, wants, iop, ev, get, set, setO, St.eff, eqN, resL, resOf, tup, evPs, fill, appendV, addW]
            refine ⟨.slice (some ⟨h.length, 0, none⟩) 0 0, h ++ [.cells false e []], [], S, ?_, runFun_fr (mach_fr hX k) hrf, by simp, A0.ext (by simp) (fun b hb => List.getElem?_append_left hb), .sl0 _⟩
            simp only [mach, hfn, stepF, hrf, Option.map_some]
            rw [← hiso]; rfl
        · have hrf : runFun (mach P X k) k (cloneF e e2 b2) [.slice (some ⟨b, o, none⟩) 0 c] h = some (.slice (some ⟨h.length, 0, none⟩) 0 0, h ++ [.cells false e []], []) := by
            simp [runFun, cloneF, run, runOps, runOp, wants, iop, ev, get, set, setO, St.eff, eqN, resL, resOf, tup, evPs, fill, appendV, addW]
          refine ⟨.slice (some ⟨h.length, 0, none⟩) 0 0, h ++ [.cells false e []], [], S, ?_, runFun_fr (mach_fr hX k) hrf, by simp, A0.ext (by simp) (fun b hb => List.getElem?_append_left hb), .sl0 _⟩
          simp only [mach, hfn, stepF, List.length_nil, hrf, Option.map_some]
          rw [← hiso]; rfl
      unfold vrunFun at hv
      split at hv
      · rename_i hc
        obtain ⟨hlen, hbase⟩ := hc
        simp only [Option.bind_eq_some_iff] at hv
        obtain ⟨⟨y, t1⟩, h1, h2⟩ := hv
        have A0 := Act.start hx hsp hpl hbase
        have hE0 : ERel S h vs ds := by
          intro t
          rw [gt_getElem?]
          cases hd : ds[t]? with
          | none => exact .bad _
          | some d =>
            obtain ⟨v, h3, h4⟩ := hds.get hd
            have : ∀ (e : Env) (i : Nat) (v : Value), e[i]? = some v → get e i = v := by
              intro e
              induction e with
              | nil => intro i v h; simp at h
              | cons x e ih =>
                intro i v h
                cases i with
                | zero => simp at h; exact h
                | succ i => exact ih i v (by simpa using h)
            rw [this _ _ _ h3]; exact h4
        obtain ⟨s1, h3, S1, A1, hE1, hw1⟩ := vrun_sound (vmach_sound hX k) (s := ⟨vs, h, []⟩) ⟨S, A0, hE0, by simp⟩ h1
        have hne : ∃ ds', vresL t1.E t1.H fn.res = some ds' ∧ d = vtup ds' ∧ H1 = t1.H ∧ ∀ id, y ≠ .exit id := by
          cases y with
          | exit id => simp at h2
          | normal =>
            simp only [Option.map_eq_some_iff, Prod.mk.injEq] at h2
            obtain ⟨ds', h4, rfl, rfl⟩ := h2
            exact ⟨ds', h4, rfl, rfl, by simp⟩
          | ret =>
            simp only [Option.map_eq_some_iff, Prod.mk.injEq] at h2
            obtain ⟨ds', h4, rfl, rfl⟩ := h2
            exact ⟨ds', h4, rfl, rfl, by simp⟩
        obtain ⟨ds', h4, rfl, rfl, hny⟩ := hne
        obtain ⟨vs', h5, h6⟩ := vresL_rel A1.hx hE1 h4
        have hrf : runFun (mach P X k) k fn vs h = some (tup vs', s1.heap, s1.wrs) := by
          unfold runFun
          rw [if_pos (by rw [hds.1]; exact hlen), h3]
          cases y with
          | exit id => exact absurd rfl (hny id)
          | normal => simp [h5]
          | ret => simp [h5]
        refine ⟨tup vs', s1.heap, s1.wrs, S1, ?_, runFun_fr (mach_fr hX k) hrf, hw1, A1, vtup_rel h6⟩
        simp only [mach, hfn, stepF, hiso, hrf, Option.map_some]
        cases sh f <;> rfl
      · simp at hv
end Go.Proofs.Cp
