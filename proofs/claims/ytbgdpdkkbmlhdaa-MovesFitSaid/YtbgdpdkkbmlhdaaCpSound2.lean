/- Regions and code. -/
import Derived.Test.YtbgdpdkkbmlhdaaCpSound
set_option linter.unusedSimpArgs false
set_option linter.unusedVariables false
namespace Go.Proofs.Cp
open Go Go.RowKit
section
variable {G : Ctx} {S : Inj} {base : Nat} {h : Heap} {W : World} {nt : Nat} {e : Env} {a : Act} {call : Calls_} {v : Value} {ef : Eff}

/-- A frame of the model's that stands for one of the machine's. -/
structure FR (G : Ctx) (S : Inj) (base nt : Nat) (s : St) (a : Act) (W : World) : Prop where
  size : a.tmps.size = nt
  env : ER G.T S (inT nt) s.env a.tmps
  heap : HR G.T S base s.heap W
  gl : GL G base W
  defs : a.defers = []

theorem VR.bool_iff {T : Nat → FuncId} {v v' : Value} (h : VR T S v v') (c : Bool) : v = .bool c ↔ v' = .bool c := by cases h <;> simp
theorem getD_some {tmps : Array Value} {t : Nat} (h : t < tmps.size) : tmps[t]? = some (tmps.getD t undef) := by simp [h]

theorem wanted_eq {ok : Nat → Bool} {ops : Array Oper} {o : Oper} {io : IOper} (hs : a.tmps.size = nt) (hE : ER G.T S ok e a.tmps) (hc : cOper G nt ok ops o = some io) : Region.wanted o (yielded ops a.tmps) = wants e io.guard := by
  unfold cOper at hc
  split at hc
  · simp only [Option.bind_eq_some_iff] at hc
    obtain ⟨op, _, hc⟩ := hc
    unfold Region.wanted
    split at hc
    · rename_i hg; simp at hc; subst hc; simp [hg, wants]
    · rename_i g b hg
      split at hc
      · rename_i t ht
        split at hc
        · rename_i hcond
          simp at hc hcond; subst hc
          simp only [hg, wants]
          unfold yielded
          rw [ht]
          simp only [Option.bind_some]
          rw [getD_some (by rw [hs]; exact hcond.1)]
          have hv := hE.at_ t hcond.2
          cases hx : get e t with
          | bool c =>
            have := (hv.bool_iff c).1 hx
            rw [this]; cases c <;> cases b <;> rfl
          | _ =>
            split
            · rename_i c hcc
              simp only [Option.some.injEq] at hcc
              have := (hv.bool_iff c).2 hcc
              rw [hx] at this; cases this
            · rfl
        · simp at hc
      · simp at hc
  · simp at hc
theorem cOper_op {ok : Nat → Bool} {ops : Array Oper} {o : Oper} {io : IOper} (hc : cOper G nt ok ops o = some io) : cOp G ok o.op = some io.op ∧ io.dst = o.dst ∧ ∀ d, o.dst = some d → d < nt := by
  unfold cOper at hc
  split at hc
  · rename_i hd
    simp only [Option.bind_eq_some_iff] at hc
    obtain ⟨op, h1, hc⟩ := hc
    have hdd : ∀ d, o.dst = some d → d < nt := fun d hx => by simpa [dstOk, hx] using hd
    split at hc
    · simp at hc; subst hc; exact ⟨h1, rfl, hdd⟩
    · split at hc
      · split at hc
        · simp at hc; subst hc; exact ⟨h1, rfl, hdd⟩
        · simp at hc
      · simp at hc
  · simp at hc

theorem ops_sound (hcall : CallSound G call) {ops : Array Oper} {Q : Exit → Act → World → Prop} : ∀ (rest : List Oper) (k : Nat) (os : List IOper) (s s' : St) (S : Inj) (a : Act) (W : World), cOpers G nt ops rest = some os →
    (∀ i, rest[i]? = ops[k + i]?) → FR G S base nt s a W → runOps call os s = some s' →
    (∀ S' a' W', Ext S S' → FR G S' base nt s' a' W' → Below base W W' → Q .normal a' W') → wpOps G.P ops Q (List.range' k rest.length) a W
  | [], k, os, s, s', S, a, W, hc, _, hF, hrun, hQ => by
    simp [cOpers] at hc; subst hc
    simp [runOps] at hrun; subst hrun
    simp only [List.length_nil, List.range'_zero, wpOps]
    exact hQ S a W (.refl _) hF (.refl _ _)
  | o :: rest, k, os, s, s', S, a, W, hc, hidx, hF, hrun, hQ => by
    simp only [cOpers, Option.bind_eq_some_iff, Option.map_eq_some_iff] at hc
    obtain ⟨io, h1, os', h2, rfl⟩ := hc
    have hk : ops[k]? = some o := by have := hidx 0; simpa using this.symm
    have hidx' : ∀ i, rest[i]? = ops[k + 1 + i]? := fun i => by have := hidx (i + 1); rw [List.getElem?_cons_succ] at this; rw [this]; congr 1; omega
    obtain ⟨hop, hdst, _⟩ := cOper_op h1
    simp only [runOps, Option.bind_eq_some_iff] at hrun
    obtain ⟨s1, hr1, hr2⟩ := hrun
    rw [List.length_cons, List.range'_succ, wpOps_cons]
    unfold wpOp
    simp only [hk]
    rw [wanted_eq hF.size hF.env h1]
    unfold runOp at hr1
    cases hw : wants s.env io.guard with
    | true =>
      rw [hw] at hr1
      simp only [↓reduceIte, Option.map_eq_some_iff] at hr1 ⊢
      obtain ⟨r, hio, rfl⟩ := hr1
      obtain ⟨v, ef⟩ := r
      refine .inl (op_sound hcall hop hF.env hF.heap hF.gl hio fun v' W' hA => ?_)
      obtain ⟨S', hx, hn, hv, hh, hb⟩ := hA
      refine ops_sound hcall rest (k + 1) os' _ s' S' _ W' h2 hidx' ⟨by rw [put_size]; exact hF.size, ?_, ?_, hF.gl.below hb, by rw [put_defs]; exact hF.defs⟩ hr2 (fun S2 a2 W2 hx2 hF2 hb2 => hQ S2 a2 W2 (hx.trans hx2) hF2 (hb.trans hb2))
      · have := ER.setO hF.size (hF.env.mono hx) io.dst hv
        rw [hdst] at this ⊢
        cases ef with
        | none => exact this
        | some p => exact this
      · cases ef with
        | none => exact hh
        | some p => exact hh
    | false =>
      rw [hw] at hr1
      simp only [Bool.false_eq_true, ↓reduceIte, Option.some.injEq] at hr1 ⊢
      subst hr1
      refine ops_sound hcall rest (k + 1) os' { s with env := setO s.env io.dst undef } s' S _ W h2 hidx' ⟨by rw [put_size]; exact hF.size, ?_, hF.heap, hF.gl, by rw [put_defs]; exact hF.defs⟩ hr2 hQ
      have := ER.setO hF.size hF.env io.dst (VR.undef (T := G.T) (S := S))
      rw [hdst] at this ⊢
      exact this

/-! ### A region that draws its order -/
theorem waits_iff {o : Oper} {j : Nat} : waits o j = true ↔ ∃ e ∈ o.after, Region.binds .any e = true ∧ e.on = j := by
  simp only [waits, List.any_eq_true, Array.mem_toList_iff, Bool.and_eq_true, beq_iff_eq]
theorem drawOk_spec {ops : Array Oper} (hd : drawOk ops = true) {i : Nat} {o : Oper} (hi : ops[i]? = some o) :
    (∀ e ∈ o.after, Region.binds .any e = true → e.on < i) ∧ ∀ (j : Nat) (p : Oper) (d : Nat), ops[j]? = some p → p.dst = some d → (i = j ∨ o.dst ≠ some d) ∧ (d ∉ looksAt ops o ∨ (j < i ∧ waits o j = true) ∨ (i < j ∧ waits p i = true)) := by
  unfold drawOk at hd
  rw [List.all_eq_true] at hd
  have hlt := (Array.getElem?_eq_some_iff.1 hi).1
  have := hd i (List.mem_range.2 hlt)
  rw [hi] at this
  simp only [Bool.and_eq_true, List.all_eq_true] at this
  obtain ⟨h1, h2⟩ := this
  refine ⟨fun e he hb => ?_, fun j p d hj hp => ?_⟩
  · have := h1 e (by simpa using he)
    simp [hb] at this; exact this
  · have := h2 j (List.mem_range.2 (Array.getElem?_eq_some_iff.1 hj).1)
    rw [hj] at this
    simp only [hp, Bool.and_eq_true, Bool.or_eq_true, beq_iff_eq, bne_iff_ne, decide_eq_true_eq, Bool.not_eq_true', ne_eq] at this
    refine ⟨this.1, ?_⟩
    rcases this.2 with (h3 | h3) | h3
    · left; simpa using h3
    · exact .inr (.inl h3)
    · exact .inr (.inr h3)

/-- The machine's run of a region that draws, in the text's order: each operation with what it finds. -/
def Trace (call : Calls_) (h : Heap) : List IOper → Env → List (Env) → Prop
  | [], _, es => es = []
  | o :: os, e, es => ∃ e' es', es = e :: es' ∧ runOpD call o e h = some e' ∧ Trace call h os e' es'

theorem runOpsD_get : ∀ {os : List IOper} {e eF : Env}, runOpsD call os e h = some eF →
    ∃ E : Nat → Env, E 0 = e ∧ E os.length = eF ∧ ∀ i io, os[i]? = some io → runOpD call io (E i) h = some (E (i + 1))
  | [], e, eF, hr => by
    simp [runOpsD] at hr; subst hr
    exact ⟨fun _ => e, rfl, rfl, fun i io hi => by simp at hi⟩
  | o :: os, e, eF, hr => by
    simp only [runOpsD, Option.bind_eq_some_iff] at hr
    obtain ⟨e1, h1, h2⟩ := hr
    obtain ⟨E, hE0, hEn, hEs⟩ := runOpsD_get h2
    refine ⟨fun i => match i with | 0 => e | i + 1 => E i, rfl, by simpa using hEn, fun i io hi => ?_⟩
    cases i with
    | zero => simp at hi; subst hi; simp only [hE0]; exact h1
    | succ i => simp at hi; exact hEs i io hi

theorem runOpD_frame {o : IOper} {e e' : Env} (hr : runOpD call o e h = some e') {t : Nat} (ht : o.dst ≠ some t) : get e' t = get e t := by
  have hset : ∀ v, get (setO e o.dst v) t = get e t := by
    intro v
    cases hd : o.dst with
    | none => rfl
    | some d => exact get_set_ne _ _ (fun e => ht (by rw [hd, e]))
  unfold runOpD at hr
  split at hr
  · split at hr
    · simp at hr; subst hr; exact hset _
    · simp at hr
  · simp at hr; subst hr; exact hset _

theorem cOpersD_get : ∀ {rest : List Oper} {os : List IOper} {ops : Array Oper}, cOpersD G nt ops rest = some os → os.length = rest.length ∧ ∀ (i : Nat) (o : Oper), rest[i]? = some o → ∃ io, os[i]? = some io ∧ cOper G nt (okAt nt ops o) ops o = some io
  | [], os, ops, hc => by simp [cOpersD] at hc; subst hc; simp
  | o :: rest, os, ops, hc => by
    simp only [cOpersD, Option.bind_eq_some_iff, Option.map_eq_some_iff] at hc
    obtain ⟨io, h1, os', h2, rfl⟩ := hc
    obtain ⟨h3, h4⟩ := cOpersD_get h2
    refine ⟨by simp [h3], fun i p hi => ?_⟩
    cases i with
    | zero => simp at hi; subst hi; exact ⟨io, rfl, h1⟩
    | succ i => simp at hi; simpa using h4 i p hi

/-- How many are not yet listed. -/
def unlisted (listed : Array Bool) : Nat := (listed.toList.filter fun b => !b).length
theorem unlisted_set {listed : Array Bool} {i : Nat} (hi : listed[i]? = some false) : unlisted (listed.setIfInBounds i true) + 1 = unlisted listed := by
  unfold unlisted
  have hlt := (Array.getElem?_eq_some_iff.1 hi).1
  have hl : listed.toList[i]? = some false := by simpa using hi
  rw [Array.toList_setIfInBounds]
  generalize listed.toList = l at hl
  clear hi hlt
  induction l generalizing i with
  | nil => simp at hl
  | cons b l ih =>
    cases i with
    | zero => simp at hl; subst hl; simp
    | succ i =>
      simp at hl
      have := ih hl
      cases b
      · simp; omega
      · simpa using this

theorem draw_sound (hcall : CallSound G call) {ops : Array Oper} {os : List IOper} {Q : Exit → Act → World → Prop} (hd : drawOk ops = true) (hc : cOpersD G nt ops ops.toList = some os) {e0 : Env} {E : Nat → Env}
    (hE0 : E 0 = e0) (hEs : ∀ i io, os[i]? = some io → runOpD call io (E i) h = some (E (i + 1))) {W0 : World}
    (hQ : ∀ a' W', a'.tmps.size = nt → ER G.T S (inT nt) (E os.length) a'.tmps → HR G.T S base h W' → GL G base W' → a'.defers = [] → Below base W0 W' → Q .normal a' W') :
    ∀ (fuel : Nat) (listed : Array Bool) (a : Act) (W : World), listed.size = ops.size → unlisted listed ≤ fuel → a.tmps.size = nt → HR G.T S base h W → GL G base W → a.defers = [] → Below base W0 W →
      (∀ (j : Nat) (o : Oper), listed.getD j false = true → ops[j]? = some o → ∀ e ∈ o.after, Region.binds .any e = true → listed.getD e.on false = true) →
      (∀ t, t < nt → (∀ (j : Nat) (o : Oper), ops[j]? = some o → o.dst = some t → listed.getD j false = false) → VR G.T S (get e0 t) (a.tmps.getD t undef)) →
      (∀ (j : Nat) (o : Oper) (t : Nat), ops[j]? = some o → o.dst = some t → listed.getD j false = true → VR G.T S (get (E os.length) t) (a.tmps.getD t undef)) →
      wpAny G.P .any ops Q fuel listed a W := by
  obtain ⟨hlen, hget⟩ := cOpersD_get hc
  have hlen' : os.length = ops.size := by simpa using hlen
  have hget' : ∀ (i : Nat) (o : Oper), ops[i]? = some o → ∃ io, os[i]? = some io ∧ cOper G nt (okAt nt ops o) ops o = some io := fun i o hi => hget i o (by simpa using hi)
  -- values of the text's run
  have stay : ∀ (t : Nat) (k l : Nat), k ≤ l → l ≤ os.length → (∀ (j : Nat) (o : Oper), k ≤ j → j < l → ops[j]? = some o → o.dst ≠ some t) → get (E l) t = get (E k) t := by
    intro t k l hkl
    induction l with
    | zero => intro _ _; have : k = 0 := by omega
              subst this; rfl
    | succ l ih =>
      intro hl hno
      by_cases hk : k = l + 1
      · subst hk; rfl
      · have hlt : l < ops.size := by omega
        obtain ⟨io, h1, h2⟩ := hget' l ops[l] (Array.getElem?_eq_getElem hlt)
        have hdst := (cOper_op h2).2.1
        rw [runOpD_frame (hEs l io h1) (by rw [hdst]; exact hno l _ (by omega) (by omega) (Array.getElem?_eq_getElem hlt))]
        exact ih (by omega) (by omega) (fun j o h3 h4 => hno j o h3 (by omega))
  -- an unlisted operation of least number is ready
  have ready_ex : ∀ (listed : Array Bool), listed.size = ops.size → Region.ready .any ops listed = [] → ∀ j, j < ops.size → listed.getD j false = true := by
    intro listed hsz hr j
    induction j using Nat.strongRecOn with
    | _ j ih =>
      intro hj
      cases hb : listed.getD j false with
      | true => rfl
      | false =>
        have hmem : j ∈ Region.ready .any ops listed := by
          rw [mem_ready]
          refine ⟨?_, ops[j], Array.getElem?_eq_getElem hj, fun e he hbd => ?_⟩
          · have hjl : j < listed.size := by omega
            simp [hjl] at hb ⊢; exact hb
          · have := (drawOk_spec hd (Array.getElem?_eq_getElem hj)).1 e he hbd
            exact ih e.on this (by omega)
        rw [hr] at hmem; cases hmem
  have fin : ∀ (listed : Array Bool) (a : Act) (W : World), listed.size = ops.size → Region.ready .any ops listed = [] → a.tmps.size = nt → HR G.T S base h W → GL G base W → a.defers = [] → Below base W0 W →
      (∀ t, t < nt → (∀ (j : Nat) (o : Oper), ops[j]? = some o → o.dst = some t → listed.getD j false = false) → VR G.T S (get e0 t) (a.tmps.getD t undef)) →
      (∀ (j : Nat) (o : Oper) (t : Nat), ops[j]? = some o → o.dst = some t → listed.getD j false = true → VR G.T S (get (E os.length) t) (a.tmps.getD t undef)) → Q .normal a W := by
    intro listed a W hsz hr h1 h2 h3 h4 h5 h6 h7
    refine hQ a W h1 ⟨fun t ht => ?_⟩ h2 h3 h4 h5
    have ht' : t < nt := by simpa [inT] using ht
    by_cases hex : ∃ (j : Nat) (o : Oper), ops[j]? = some o ∧ o.dst = some t
    · obtain ⟨j, o, ho, hdo⟩ := hex
      exact h7 j o t ho hdo (ready_ex listed hsz hr j (Array.getElem?_eq_some_iff.1 ho).1)
    · have hno : ∀ (j : Nat) (o : Oper), ops[j]? = some o → o.dst ≠ some t := fun j o ho hdo => hex ⟨j, o, ho, hdo⟩
      rw [stay t 0 os.length (Nat.zero_le _) (Nat.le_refl _) (fun j o _ _ ho => hno j o ho), hE0]
      exact h6 t ht' (fun j o ho hdo => absurd hdo (hno j o ho))
  intro fuel
  induction fuel with
  | zero =>
    intro listed a W hsz hun h1 h2 h3 h4 h5 hcl h6 h7
    have hr : Region.ready .any ops listed = [] := by
      cases hrr : Region.ready .any ops listed with
      | nil => rfl
      | cons i l =>
        have hmem : i ∈ Region.ready .any ops listed := by rw [hrr]; simp
        obtain ⟨h8, o, ho, _⟩ := mem_ready.1 hmem
        have hil : i < listed.size := by rw [hsz]; exact (Array.getElem?_eq_some_iff.1 ho).1
        have hif : listed[i]? = some false := by simp [hil] at h8 ⊢; exact h8
        have := unlisted_set hif
        omega
    exact ⟨hr, fin listed a W hsz hr h1 h2 h3 h4 h5 h6 h7⟩
  | succ fuel ih =>
    intro listed a W hsz hun h1 h2 h3 h4 h5 hcl h6 h7
    refine ⟨fun hr => fin listed a W hsz hr h1 h2 h3 h4 h5 h6 h7, fun i hmem => ?_⟩
    obtain ⟨h8, o, ho, hdeps⟩ := mem_ready.1 hmem
    have hio := (Array.getElem?_eq_some_iff.1 ho).1
    have hil : i < listed.size := by omega
    have hif : listed[i]? = some false := by simp [hil] at h8 ⊢; exact h8
    have hif' : listed.getD i false = false := by simp [hif]
    have hunl := unlisted_set hif
    obtain ⟨io, hos, hco⟩ := hget' i o ho
    obtain ⟨hop, hdst, hdlt⟩ := cOper_op hco
    obtain ⟨_, hspec⟩ := drawOk_spec hd ho
    have hstep := hEs i io hos
    have hilen : i < os.length := by omega
    -- what the operation looks at
    have hER : ER G.T S (okAt nt ops o) (E i) a.tmps := by
      refine ⟨fun t ht => ?_⟩
      simp only [okAt, Bool.and_eq_true, decide_eq_true_eq, List.contains_iff_mem] at ht
      by_cases hex : ∃ (j : Nat) (p : Oper), ops[j]? = some p ∧ p.dst = some t
      · obtain ⟨j, p, hp, hdp⟩ := hex
        have huniq : ∀ (k : Nat) (q : Oper), ops[k]? = some q → q.dst = some t → k = j := fun k q hq hdq => by
          rcases ((drawOk_spec hd hq).2 j p t hp hdp).1 with h9 | h9
          · exact h9
          · exact absurd hdq h9
        rcases (hspec j p t hp hdp).2 with h9 | ⟨h9, h10⟩ | ⟨h9, h10⟩
        · exact absurd ht.2 h9
        · -- waited for
          obtain ⟨ed, hed, hb, hon⟩ := waits_iff.1 h10
          have hjl : listed.getD j false = true := by rw [← hon]; exact hdeps ed hed hb
          have := h7 j p t hp hdp hjl
          rw [stay t (j + 1) os.length (by omega) (Nat.le_refl _) (fun k q h11 h12 hq hdq => by have := huniq k q hq hdq; omega)] at this
          rw [stay t (j + 1) i (by omega) (by omega) (fun k q h11 h12 hq hdq => by have := huniq k q hq hdq; omega)]
          exact this
        · -- one that waits for this one
          obtain ⟨ed, hed, hb, hon⟩ := waits_iff.1 h10
          have hjl : listed.getD j false = false := by
            cases hb2 : listed.getD j false with
            | false => rfl
            | true =>
              have := hcl j p hb2 hp ed hed hb
              rw [hon, hif'] at this; cases this
          have := h6 t ht.1 (fun k q hq hdq => by rw [huniq k q hq hdq]; exact hjl)
          rw [stay t 0 i (Nat.zero_le _) (by omega) (fun k q h11 h12 hq hdq => by have := huniq k q hq hdq; omega), hE0]
          exact this
      · have hno : ∀ (j : Nat) (p : Oper), ops[j]? = some p → p.dst ≠ some t := fun j p hp hdp => hex ⟨j, p, hp, hdp⟩
        rw [stay t 0 i (Nat.zero_le _) (by omega) (fun k q _ _ hq => hno k q hq), hE0]
        exact h6 t ht.1 (fun j p hp hdp => absurd hdp (hno j p hp))
    -- what follows, once its value is known
    have next : ∀ v' W', Below base W W' → HR G.T S base h W' → (∀ d, o.dst = some d → VR G.T S (get (E (i + 1)) d) v') → wpAny G.P .any ops Q fuel (listed.setIfInBounds i true) (a.put o.dst v') W' := by
      intro v' W' hb hh hv
      refine ih _ _ W' (by simp [hsz]) (by omega) (by rw [put_size]; exact h1) hh (h3.below hb) (by rw [put_defs]; exact h4) (h5.trans hb) ?_ ?_ ?_
      · intro j p hj hp ed hed hbd
        by_cases hji : i = j
        · subst hji
          rw [ho] at hp; injection hp with hp; subst hp
          exact getD_set_true (hdeps ed hed hbd)
        · rw [getD_set_ne false hji] at hj
          exact getD_set_true (hcl j p hj hp ed hed hbd)
      · intro t ht hno
        have hdt : o.dst ≠ some t := fun hdo => by
          have := hno i o ho hdo
          rw [Array.getD_eq_getD_getElem?, Array.getElem?_setIfInBounds_self_of_lt hil] at this
          simp at this
        have hold := h6 t ht (fun j p hp hdp => by
          by_cases hji : i = j
          · rw [← hji]; exact hif'
          · have := hno j p hp hdp
            rwa [getD_set_ne false hji] at this)
        cases hdo : o.dst with
        | none => exact hold
        | some d =>
          have hne : d ≠ t := fun e => hdt (by rw [hdo, e])
          simp [Act.put, Array.getElem?_setIfInBounds_ne hne] at hold ⊢; exact hold
      · intro j p t hp hdp hj
        by_cases hji : i = j
        · subst hji
          rw [ho] at hp; injection hp with hp; subst hp
          have htl := hdlt t hdp
          rw [stay t (i + 1) os.length (by omega) (Nat.le_refl _) (fun k q h11 h12 hq hdq => by
            rcases ((drawOk_spec hd hq).2 i o t ho hdp).1 with h9 | h9
            · omega
            · exact h9 hdq)]
          have := hv t hdp
          rw [hdp]
          simp [Act.put, h1, htl]; exact this
        · rw [getD_set_ne false hji] at hj
          have hold := h7 j p t hp hdp hj
          have hdt : o.dst ≠ some t := fun hdo => by
            rcases (hspec j p t hp hdp).1 with h9 | h9
            · exact hji h9
            · exact h9 hdo
          cases hdo : o.dst with
          | none => exact hold
          | some d =>
            have hne : d ≠ t := fun e => hdt (by rw [hdo, e])
            simp [Act.put, Array.getElem?_setIfInBounds_ne hne] at hold ⊢; exact hold
    unfold wpOp
    simp only [ho]
    rw [wanted_eq h1 hER hco]
    have gset : ∀ (v : Value) (d : Nat), o.dst = some d → get (setO (E i) io.dst v) d = v := fun v d hdo => by rw [hdst, hdo]; exact get_set_same _ _ _
    unfold runOpD at hstep
    cases hw : wants (E i) io.guard with
    | true =>
      rw [hw] at hstep
      simp only [↓reduceIte] at hstep ⊢
      split at hstep
      · rename_i v hiop
        simp only [Option.some.injEq] at hstep
        refine .inl (op_sound hcall hop hER h2 h3 hiop fun v' W' hA => ?_)
        obtain ⟨S', hx, hn, hv, hh, hb⟩ := hA
        have hS : S' = S := hn rfl
        subst hS
        exact next v' W' hb hh (fun d hdo => by rw [← hstep, gset v d hdo]; exact hv)
      · simp at hstep
    | false =>
      rw [hw] at hstep
      simp only [Bool.false_eq_true, ↓reduceIte, Option.some.injEq] at hstep ⊢
      exact next undef W (.refl _ _) h2 (fun d hdo => by rw [← hstep, gset _ d hdo]; exact VR.undef)
end
end Go.Proofs.Cp
