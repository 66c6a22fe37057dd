/- What the machine leaves as it was. No program in sight. -/
import Derived.Test.YtbgdpdkkbmlhdaaCpCore
set_option linter.unusedSimpArgs false
set_option linter.unusedVariables false
namespace Go.Proofs.Cp
open Go

/-- Of the blocks of h only those of w have turned. -/
structure Fr (h h' : Heap) (w : List Nat) : Prop where
  len : h.length ≤ h'.length
  get : ∀ b, b < h.length → b ∉ w → h'[b]? = h[b]?
theorem Fr.refl (h : Heap) : Fr h h [] := ⟨Nat.le_refl _, fun _ _ _ => rfl⟩
theorem Fr.trans {h1 h2 h3 : Heap} {w1 w2 : List Nat} (h : Fr h1 h2 w1) (k : Fr h2 h3 w2) {w : List Nat} (hw : ∀ b, b ∈ w1 ∨ b ∈ w2 → b ∈ w) : Fr h1 h3 w :=
  ⟨Nat.le_trans h.len k.len, fun b hb hn => (k.get b (Nat.lt_of_lt_of_le hb h.len) (fun hm => hn (hw b (.inr hm)))).trans (h.get b hb (fun hm => hn (hw b (.inl hm))))⟩
theorem Fr.push (h : Heap) (x : Blk) : Fr h (h ++ [x]) [] := ⟨by simp, fun b hb _ => List.getElem?_append_left hb⟩
theorem Fr.set (h : Heap) (b : Nat) (x : Blk) : Fr h (h.set b x) [b] := ⟨by simp, fun c _ hn => by
  rw [List.getElem?_set_ne (fun e => hn (by simp [e]))]⟩
theorem Fr.store {h h' : Heap} {b o : Nat} {vs : List Value} (hs : stN h b o vs = some h') : Fr h h' [b] := by
  unfold stN at hs
  split at hs
  · split at hs
    · simp at hs; subst hs; exact .set _ _ _
    · simp at hs
  · simp at hs

def CallFr (call : Calls_) : Prop := ∀ f args h v h' w, call f args h = some (v, some (h', w)) → Fr h h' w

theorem iop_fr {call : Calls_} (hcall : CallFr call) {op : IOp} {e : Env} {h h' : Heap} {v : Value} {w : List Nat} (hio : iop call op e h = some (v, some (h', w))) : Fr h h' w := by
  cases op <;> simp only [iop] at hio
  case box x => simp at hio; obtain ⟨_, rfl, rfl⟩ := hio; exact .push _ _
  case alloc zs => simp at hio; obtain ⟨_, rfl, rfl⟩ := hio; exact .push _ _
  case buildSlice esz n zs ps => simp at hio; obtain ⟨cs, _, _, rfl, rfl⟩ := hio; exact .push _ _
  case store n a x =>
    split at hio
    · split at hio
      · simp at hio; obtain ⟨h2, hs, _, rfl, rfl⟩ := hio; exact .store hs
      · simp at hio
    · simp at hio
  case mkSlice esz bytes zs l c =>
    split at hio
    · split at hio
      · simp at hio; obtain ⟨_, rfl, rfl⟩ := hio; exact .push _ _
      · simp at hio
    · simp at hio
  case call f args frz =>
    split at hio
    · simp only [Option.map_eq_some_iff, Prod.mk.injEq] at hio
      obtain ⟨r, hc, rfl, hef⟩ := hio
      obtain ⟨v0, ef0⟩ := r
      cases ef0 with
      | none => simp at hef
      | some p =>
        obtain ⟨h2, w2⟩ := p
        simp at hef
        obtain ⟨he, rfl⟩ := hef
        have := hcall _ _ _ _ _ _ hc
        cases frz
        · simp at he; subst he; exact this
        · simp at he; subst he
          refine ⟨by simp [frzFrom]; have := this.len; omega, fun b hb hn => ?_⟩
          unfold frzFrom
          have hl := this.len
          rw [List.getElem?_append_left (by simp; omega), List.getElem?_take, if_pos hb]
          exact this.get b hb hn
    · simp at hio
  case append esz bytes s x =>
    unfold appendV at hio
    split at hio
    · simp only [Option.bind_eq_some_iff] at hio
      obtain ⟨news, _, hio⟩ := hio
      split at hio
      · split at hio
        · simp at hio
        · split at hio
          · simp at hio; obtain ⟨_, rfl, rfl⟩ := hio; exact .push _ _
          · simp at hio
      · split at hio
        · split at hio
          · simp at hio
          · simp at hio; obtain ⟨h2, hs, _, rfl, rfl⟩ := hio; exact .store hs
        · split at hio
          · split at hio
            · simp at hio; obtain ⟨_, rfl, rfl⟩ := hio
              exact (Fr.set _ _ _).trans (.push _ _) (fun b hb => by simpa using hb)
            · simp at hio
          · simp at hio
      · simp at hio
    · simp at hio
  case copy esz d x =>
    unfold copyV at hio
    split at hio
    · split at hio
      · exact absurd hio (by simp)
      · split at hio
        · simp only [Option.bind_eq_some_iff, Option.map_eq_some_iff, Prod.mk.injEq, Option.some.injEq] at hio
          obtain ⟨vs, _, h2, hs, _, rfl, rfl⟩ := hio; exact .store hs
        · exact absurd hio (by simp)
    · exact absurd hio (by simp)
  case clear zs x =>
    unfold clearV at hio
    split at hio
    · split at hio
      · simp at hio
      · split at hio
        · simp at hio; obtain ⟨h2, hs, _, rfl, rfl⟩ := hio; exact .store hs
        · simp at hio
    · simp at hio
  all_goals first
    | (simp at hio; done)
    | (split at hio <;> first | (simp at hio; done) | (split at hio <;> simp at hio; done) | (simp only [Option.map_eq_some_iff] at hio; obtain ⟨_, _, hio⟩ := hio; simp at hio; done))

theorem mem_addW {w ws : List Nat} {b : Nat} : b ∈ addW w ws ↔ b ∈ w ∨ b ∈ ws := by
  unfold addW
  induction w with
  | nil => simp
  | cons a w ih =>
    simp only [List.foldr_cons]
    split
    · rename_i hm
      rw [ih]
      constructor
      · rintro (h | h)
        · exact .inl (List.mem_cons_of_mem _ h)
        · exact .inr h
      · rintro (h | h)
        · rcases List.mem_cons.1 h with rfl | h
          · exact ih.1 hm
          · exact .inl h
        · exact .inr h
    · simp [ih, or_assoc]

/-- The state's heap and what has been written since h. -/
def SFr (h : Heap) (ws0 : List Nat) (s : St) : Prop := (∀ b, b ∈ ws0 → b ∈ s.wrs) ∧ Fr h s.heap s.wrs
theorem SFr.step {h : Heap} {ws0 : List Nat} {s : St} (hs : SFr h ws0 s) {d : Option Nat} {v : Value} {ef : Eff} (he : ∀ h' w, ef = some (h', w) → Fr s.heap h' w) : SFr h ws0 (s.eff d v ef) := by
  cases ef with
  | none => exact hs
  | some p =>
    obtain ⟨h', w⟩ := p
    exact ⟨fun b hb => mem_addW.2 (.inr (hs.1 b hb)), hs.2.trans (he h' w rfl) (fun b hb => by
      show b ∈ addW w s.wrs
      rcases hb with hb | hb
      · exact mem_addW.2 (.inr hb)
      · exact mem_addW.2 (.inl hb))⟩
theorem runOp_fr {call : Calls_} (hcall : CallFr call) {o : IOper} {s s' : St} {h : Heap} {ws0 : List Nat} (hs : SFr h ws0 s) (hr : runOp call o s = some s') : SFr h ws0 s' := by
  unfold runOp at hr
  split at hr
  · simp only [Option.map_eq_some_iff] at hr
    obtain ⟨r, h1, rfl⟩ := hr
    obtain ⟨v, ef⟩ := r
    exact hs.step (fun h' w he => by subst he; exact iop_fr hcall h1)
  · simp at hr; subst hr; exact hs
theorem runOps_fr {call : Calls_} (hcall : CallFr call) {h : Heap} {ws0 : List Nat} : ∀ {os : List IOper} {s s' : St}, SFr h ws0 s → runOps call os s = some s' → SFr h ws0 s'
  | [], s, s', hs, hr => by simp [runOps] at hr; subst hr; exact hs
  | o :: os, s, s', hs, hr => by
    simp only [runOps, Option.bind_eq_some_iff] at hr
    obtain ⟨s1, h1, h2⟩ := hr
    exact runOps_fr hcall (runOp_fr hcall hs h1) h2
theorem runOpE_fr {call : Calls_} (hcall : CallFr call) {o : IOper × Nat × Nat × Nat} {s s' : ESt} {h : Heap} {ws0 : List Nat} (hs : SFr h ws0 s.st) (hr : runOpE call o s = some s') : SFr h ws0 s'.st := by
  unfold runOpE at hr
  split at hr
  · simp at hr; subst hr; exact hs
  · have key : ∀ r, iop call o.1.op s.st.env s.st.heap = some r → SFr h ws0 (s.st.eff o.1.dst r.1 r.2) := by
      rintro ⟨v, ef⟩ h1
      exact hs.step (fun h' w he => by subst he; exact iop_fr hcall h1)
    split at hr
    · simp only [Option.bind_eq_some_iff] at hr
      obtain ⟨r, h1, h2⟩ := hr
      split at h2
      · split at h2
        · simp at h2; subst h2; exact key r h1
        · simp at h2
      · split at h2
        · split at h2 <;> (simp at h2; subst h2; exact key r h1)
        · simp at h2
      · simp at h2; subst h2; exact key r h1
    · simp at hr; subst hr; exact hs
theorem runOpsE_fr {call : Calls_} (hcall : CallFr call) {h : Heap} {ws0 : List Nat} : ∀ {os : List (IOper × Nat × Nat × Nat)} {s s' : ESt}, SFr h ws0 s.st → runOpsE call os s = some s' → SFr h ws0 s'.st
  | [], s, s', hs, hr => by simp [runOpsE] at hr; subst hr; exact hs
  | o :: os, s, s', hs, hr => by
    simp only [runOpsE, Option.bind_eq_some_iff] at hr
    obtain ⟨s1, h1, h2⟩ := hr
    exact runOpsE_fr hcall (runOpE_fr hcall hs h1) h2
theorem SFr.grow {h : Heap} {ws0 : List Nat} {s : St} (hs : SFr h ws0 s) (l : Heap) : SFr h ws0 { s with heap := s.heap ++ l } :=
  ⟨hs.1, by have := hs.2.len; simp; omega, fun b hb hn => by
    show (s.heap ++ l)[b]? = _
    rw [List.getElem?_append_left (Nat.lt_of_lt_of_le hb hs.2.len)]; exact hs.2.get b hb hn⟩
theorem run_fr {call : Calls_} (hcall : CallFr call) {k : Nat} {h : Heap} {ws0 : List Nat} : ∀ {c : ICode} {s : St} {r : Ex × St}, SFr h ws0 s → run call k c s = some r → SFr h ws0 r.2
  | .skip, s, r, hs, hr => by simp [run] at hr; subst hr; exact hs
  | .reg false ops, s, r, hs, hr => by
    simp only [run, Option.map_eq_some_iff] at hr
    obtain ⟨s', h1, rfl⟩ := hr
    exact runOps_fr hcall hs h1
  | .reg true ops, s, r, hs, hr => by
    simp only [run, Option.map_eq_some_iff] at hr
    obtain ⟨e', h1, rfl⟩ := hr
    exact hs
  | .rgE ops, s, r, hs, hr => by
    simp only [run, Option.bind_eq_some_iff] at hr
    obtain ⟨s', h1, h2⟩ := hr
    split at h2
    · simp at h2; subst h2
      exact runOpsE_fr (s := ⟨_, _, _, _⟩) hcall (hs.grow _) h1
    · simp at h2
  | .seq a b, s, r, hs, hr => by
    simp only [run, Option.bind_eq_some_iff] at hr
    obtain ⟨r1, h1, h2⟩ := hr
    obtain ⟨x1, s1⟩ := r1
    have := run_fr hcall hs h1
    cases x1 with
    | normal => exact run_fr hcall this h2
    | exit id => simp at h2; subst h2; exact this
    | ret => simp at h2; subst h2; exact this
  | .cond c a b, s, r, hs, hr => by
    simp only [run] at hr
    split at hr
    · exact run_fr hcall hs hr
    · exact run_fr hcall hs hr
    · simp at hr
  | .block id c, s, r, hs, hr => by
    simp only [run, Option.map_eq_some_iff] at hr
    obtain ⟨r1, h1, h2⟩ := hr
    have := run_fr hcall hs h1
    have he : r.2 = r1.2 := by rw [← h2]; split <;> rfl
    rw [he]; exact this
  | .loop c, s, r, hs, hr => by
    simp only [run] at hr
    have key : ∀ (n : Nat) (s : St) (r : Ex × St), SFr h ws0 s → iter (run call k c) n s = some r → SFr h ws0 r.2 := by
      intro n
      induction n with
      | zero => intro s r _ hr; simp [iter] at hr
      | succ n ih =>
        intro s r hs hr
        simp only [iter, Option.bind_eq_some_iff] at hr
        obtain ⟨r1, h1, h2⟩ := hr
        obtain ⟨x1, s1⟩ := r1
        have := run_fr hcall hs h1
        cases x1 with
        | normal => exact ih s1 r this h2
        | exit id => simp at h2; subst h2; exact this
        | ret => simp at h2; subst h2; exact this
    exact key k s r hs hr
  | .exit id, s, r, hs, hr => by simp [run] at hr; subst hr; exact hs
  | .ret, s, r, hs, hr => by simp [run] at hr; subst hr; exact hs
theorem runFun_fr {call : Calls_} (hcall : CallFr call) {k : Nat} {fn : IFun} {args : List Value} {h h' : Heap} {v : Value} {w : List Nat} (hr : runFun call k fn args h = some (v, h', w)) : Fr h h' w := by
  unfold runFun at hr
  split at hr
  · simp only [Option.bind_eq_some_iff] at hr
    obtain ⟨r, h1, h2⟩ := hr
    have := run_fr hcall (h := h) (ws0 := []) (s := ⟨args, h, []⟩) ⟨(fun b hb => absurd hb (by simp)), Fr.refl h⟩ h1
    split at h2
    · simp at h2
    · simp only [Option.map_eq_some_iff, Prod.mk.injEq] at h2
      obtain ⟨vs, _, _, rfl, rfl⟩ := h2
      exact this.2
  · simp at hr
theorem foldl_set_len {h' : Heap} : ∀ (w : List Nat) (h : Heap), (w.foldl (fun g b => g.set b (h'.getD b .dead)) h).length = h.length
  | [], h => rfl
  | b :: w, h => by rw [List.foldl_cons, foldl_set_len w]; simp
theorem foldl_set_get {h' : Heap} : ∀ (w : List Nat) (h : Heap) (c : Nat), c < h.length → h.length ≤ h'.length → (w.foldl (fun g b => g.set b (h'.getD b .dead)) h)[c]? = if c ∈ w then h'[c]? else h[c]?
  | [], h, c, _, _ => by simp
  | b :: w, h, c, hc, hl => by
    rw [List.foldl_cons, foldl_set_get w _ c (by simpa using hc) (by simpa using hl)]
    by_cases hm : c ∈ w
    · simp [hm]
    · by_cases hb : c = b
      · subst hb
        have h2 : c < h'.length := by omega
        simp [hm, List.getElem?_set, hc, h2]
      · have : c ∉ b :: w := by simp [hb, hm]
        rw [if_neg hm, if_neg this, List.getElem?_set_ne (fun e => hb e.symm)]
theorem gc_fr {h h' h2 : Heap} {v v2 : Value} {ws w : List Nat} (hf : Fr h h' ws) (hg : gc h (v, h', ws) = (v2, some (h2, w))) : Fr h h2 w := by
  unfold gc at hg
  simp only at hg
  have hsub : ∀ b, b < h.length → b ∉ ws.filter (fun b => decide (b < h.length)) → b ∉ ws := fun b hb hn hm => hn (by simp [hm, hb])
  split at hg
  · split at hg
    · simp at hg
    · simp only [Prod.mk.injEq, Option.some.injEq] at hg
      obtain ⟨_, rfl, rfl⟩ := hg
      refine ⟨by rw [foldl_set_len]; exact Nat.le_refl _, fun b hb hn => ?_⟩
      rw [foldl_set_get _ _ _ hb hf.len, if_neg hn]
  · simp at hg
    obtain ⟨_, rfl, rfl⟩ := hg
    exact ⟨hf.len, fun b hb hn => hf.get b hb (hsub b hb hn)⟩
theorem stepF_fr {P : Prog} {k : Nat} {call : Calls_} (hcall : CallFr call) : CallFr (stepF P k call) := by
  intro f args h v h' w hr
  unfold stepF at hr
  split at hr
  · simp at hr
  · split at hr
    · simp only [Option.map_eq_some_iff] at hr
      obtain ⟨⟨v0, h0, w0⟩, h1, h2⟩ := hr
      simp only [Prod.mk.injEq, Option.some.injEq] at h2
      obtain ⟨_, rfl, rfl⟩ := h2
      have hf := runFun_fr hcall h1
      exact ⟨hf.len, fun b hb hn => hf.get b hb (fun hm => hn (by simp [hm, hb]))⟩
    · simp only [Option.map_eq_some_iff] at hr
      obtain ⟨r, h1, h2⟩ := hr
      obtain ⟨v0, h0, w0⟩ := r
      exact gc_fr (runFun_fr hcall h1) h2
theorem mach_fr {P : Prog} {X : Calls_} (hX : CallFr X) : ∀ k, CallFr (mach P X k)
  | 0 => by intro f args h v h' w hr; simp [mach] at hr
  | k + 1 => by
    intro f args h v h' w hr
    simp only [mach] at hr
    split at hr
    · exact hX _ _ _ _ _ _ hr
    · exact stepF_fr (mach_fr hX k) _ _ _ _ _ _ hr
end Go.Proofs.Cp
