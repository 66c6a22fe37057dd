/- What code comes to, as a property of its end. No program in sight. -/
import Derived.Test.YtbgdpdkkbmlhdaaCpSim
set_option linter.unusedSimpArgs false
set_option linter.unusedVariables false
namespace Go.Proofs.Cp
open Go
/-- The code comes to an end of which P holds. -/
def Ok (x : Option (Ex × VSt)) (P : Ex → VSt → Prop) : Prop := ∃ e s, x = some (e, s) ∧ P e s
def OkF (x : Option (DV × VHeap)) (P : DV → VHeap → Prop) : Prop := ∃ d H, x = some (d, H) ∧ P d H
variable {α : Type} {P Q : Ex → VSt → Prop} {x : Option (Ex × VSt)}
@[go_sem] theorem Ok_some (e : Ex) (s : VSt) (P : Ex → VSt → Prop) : Ok (some (e, s)) P = P e s := by
  unfold Ok
  apply propext
  constructor
  · rintro ⟨e', s', h, hp⟩; simp at h; obtain ⟨rfl, rfl⟩ := h; exact hp
  · intro h; exact ⟨e, s, rfl, h⟩
@[go_sem] theorem OkF_some (d : DV) (H : VHeap) (P : DV → VHeap → Prop) : OkF (some (d, H)) P = P d H := by
  unfold OkF
  apply propext
  constructor
  · rintro ⟨e', s', h, hp⟩; simp at h; obtain ⟨rfl, rfl⟩ := h; exact hp
  · intro h; exact ⟨d, H, rfl, h⟩
theorem Ok.mono (h : Ok x P) (hp : ∀ e s, P e s → Q e s) : Ok x Q := by
  obtain ⟨e, s, h1, h2⟩ := h
  exact ⟨e, s, h1, hp e s h2⟩
theorem OkF.mono {x : Option (DV × VHeap)} {P Q : DV → VHeap → Prop} (h : OkF x P) (hp : ∀ d H, P d H → Q d H) : OkF x Q := by
  obtain ⟨e, s, h1, h2⟩ := h
  exact ⟨e, s, h1, hp e s h2⟩
theorem Ok_bind (f : Ex × VSt → Option (Ex × VSt)) : Ok (x.bind f) P = Ok x (fun e s => Ok (f (e, s)) P) := by
  apply propext
  constructor
  · rintro ⟨e, s, h, hp⟩
    simp only [Option.bind_eq_some_iff] at h
    obtain ⟨⟨e1, s1⟩, h1, h2⟩ := h
    exact ⟨e1, s1, h1, e, s, h2, hp⟩
  · rintro ⟨e1, s1, h1, e, s, h2, hp⟩
    exact ⟨e, s, by rw [h1]; exact h2, hp⟩
theorem Ok_map (f : Ex × VSt → Ex × VSt) : Ok (x.map f) P = Ok x (fun e s => P (f (e, s)).1 (f (e, s)).2) := by
  apply propext
  constructor
  · rintro ⟨e, s, h, hp⟩
    simp only [Option.map_eq_some_iff] at h
    obtain ⟨⟨e1, s1⟩, h1, h2⟩ := h
    exact ⟨e1, s1, h1, by show P (f (e1, s1)).1 (f (e1, s1)).2; rw [h2]; exact hp⟩
  · rintro ⟨e1, s1, h1, hp⟩
    exact ⟨_, _, by rw [h1]; rfl, hp⟩
theorem OkF_bind (f : Ex × VSt → Option (DV × VHeap)) {P : DV → VHeap → Prop} : OkF (x.bind f) P = Ok x (fun e s => OkF (f (e, s)) P) := by
  apply propext
  constructor
  · rintro ⟨e, s, h, hp⟩
    simp only [Option.bind_eq_some_iff] at h
    obtain ⟨⟨e1, s1⟩, h1, h2⟩ := h
    exact ⟨e1, s1, h1, e, s, h2, hp⟩
  · rintro ⟨e1, s1, h1, e, s, h2, hp⟩
    exact ⟨e, s, by rw [h1]; exact h2, hp⟩
theorem Ok_loop {P : Prog} {sh : Nat → Bool} {base nt : Nat} {c : ICode} (I : Nat → VSt → Prop) {Q : Ex → VSt → Prop}
    (hs : ∀ n s, I n s → Ok (R P sh base nt c s) (fun e s' => (e = .normal ∧ ∃ m, m < n ∧ I m s') ∨ (e ≠ .normal ∧ Q e s'))) : ∀ n s, I n s → Ok (R P sh base nt (.loop c) s) Q := by
  intro n s hI
  obtain ⟨r, h1, h2⟩ := R_loop_inv (P := P) (sh := sh) (base := base) (nt := nt) (c := c) I (fun r => Q r.1 r.2) (fun n s hI => by
    obtain ⟨e, s', h1, h2⟩ := hs n s hI
    exact ⟨(e, s'), h1, h2⟩) n s hI
  exact ⟨r.1, r.2, h1, h2⟩
/-- A round of a loop that counts up to N at most. -/
def StepUp (N : Nat) (I : Nat → VSt → Prop) (Q : Ex → VSt → Prop) (i : Nat) (e : Ex) (s : VSt) : Prop := (e = .normal ∧ i < N ∧ I (i + 1) s) ∨ (e ≠ .normal ∧ Q e s)
theorem StepUp.next {N i : Nat} {I : Nat → VSt → Prop} {Q : Ex → VSt → Prop} {s : VSt} (h : i < N) (hI : I (i + 1) s) : StepUp N I Q i .normal s := .inl ⟨rfl, h, hI⟩
theorem StepUp.exit {N i n : Nat} {I : Nat → VSt → Prop} {Q : Ex → VSt → Prop} {s : VSt} (h : Q (.exit n) s) : StepUp N I Q i (.exit n) s := .inr ⟨by simp, h⟩
theorem StepUp.ret {N i : Nat} {I : Nat → VSt → Prop} {Q : Ex → VSt → Prop} {s : VSt} (h : Q .ret s) : StepUp N I Q i .ret s := .inr ⟨by simp, h⟩
theorem Ok_up {P : Prog} {sh : Nat → Bool} {base nt : Nat} {c : ICode} (N : Nat) (I : Nat → VSt → Prop) {Q : Ex → VSt → Prop}
    (hs : ∀ i s, I i s → Ok (R P sh base nt c s) (StepUp N I Q i)) : ∀ i s, I i s → Ok (R P sh base nt (.loop c) s) Q := by
  intro i s hI
  refine Ok_loop (fun m s => ∃ j, m = N + 1 - j ∧ I j s) (fun n s hn => ?_) (N + 1 - i) s ⟨i, rfl, hI⟩
  obtain ⟨j, rfl, hJ⟩ := hn
  refine (hs j s hJ).mono fun e s' h => ?_
  rcases h with ⟨h1, h2, h3⟩ | h
  · exact .inl ⟨h1, N + 1 - (j + 1), by omega, j + 1, rfl, h3⟩
  · exact .inr h
/-- A round of a loop that counts down. -/
def StepDn (I : Nat → VSt → Prop) (Q : Ex → VSt → Prop) (n : Nat) (e : Ex) (s : VSt) : Prop := (e = .normal ∧ ∃ m, m < n ∧ I m s) ∨ (e ≠ .normal ∧ Q e s)
theorem StepDn.next {n m : Nat} {I : Nat → VSt → Prop} {Q : Ex → VSt → Prop} {s : VSt} (h : m < n) (hI : I m s) : StepDn I Q n .normal s := .inl ⟨rfl, m, h, hI⟩
theorem StepDn.exit {n k : Nat} {I : Nat → VSt → Prop} {Q : Ex → VSt → Prop} {s : VSt} (h : Q (.exit k) s) : StepDn I Q n (.exit k) s := .inr ⟨by simp, h⟩
theorem StepDn.ret {n : Nat} {I : Nat → VSt → Prop} {Q : Ex → VSt → Prop} {s : VSt} (h : Q .ret s) : StepDn I Q n .ret s := .inr ⟨by simp, h⟩
theorem Ok_dn {P : Prog} {sh : Nat → Bool} {base nt : Nat} {c : ICode} (I : Nat → VSt → Prop) {Q : Ex → VSt → Prop}
    (hs : ∀ n s, I n s → Ok (R P sh base nt c s) (StepDn I Q n)) : ∀ n s, I n s → Ok (R P sh base nt (.loop c) s) Q := Ok_loop I hs
theorem F_ok {P : Prog} {sh : Nat → Bool} {f : Nat} {fn : IFun} (hf : P f = some fn) (hi : fn.iso = sh f) {args : List DV} {H : VHeap} {b : Nat} (hl : args.length ≤ fn.ntmps ∧ H.length ≤ b) {Q : DV → VHeap → Prop}
    (h : Ok (R P sh b fn.ntmps fn.body ⟨args, H⟩) (fun e s => OkF (endF fn.res (e, s)) Q)) (hq : clq fn args = false := by rfl) : OkF (F P sh f args H b) Q := by
  rw [F_fun hf hi hl hq, OkF_bind]; exact h
theorem FV_ok {P : Prog} {sh : Nat → Bool} {g : Nat} {args : List DV} {d : DV} (h : OkF (F P sh g args [] 0) (fun e H => frzD H 6 e = some d)) : FV P sh g args = some d := by
  obtain ⟨e, H, h1, h2⟩ := h
  unfold FV; rw [h1]; exact h2
attribute [go_sem] Ok_bind Ok_map OkF_bind
/-- A list that lies in the block b, or nowhere if it is empty. -/
def SlB (H : VHeap) (b e : Nat) (L : List (List DV)) (v : DV) : Prop := (L = [] ∧ v = .lit (.slice none 0 0)) ∨ (L ≠ [] ∧ ∃ ver, v = .ms b ver 0 L.length L.length ∧ hg H b = ⟨ver, e, true, L⟩)
theorem SlB.keep {H H' : VHeap} {b e : Nat} {L : List (List DV)} {v : DV} (h : SlB H b e L v) (hb : hg H' b = hg H b) : SlB H' b e L v := by
  rcases h with h | ⟨h1, ver, h2, h3⟩
  · exact .inl h
  · exact .inr ⟨h1, ver, h2, by rw [hb]; exact h3⟩
theorem SlB.nil {H : VHeap} {b e : Nat} : SlB H b e [] (.lit (.slice none 0 0)) := .inl ⟨rfl, rfl⟩
theorem SlB.mk {H : VHeap} {b e n ver : Nat} {L : List (List DV)} (hl : n = L.length) (h0 : n ≠ 0) (hb : hg H b = ⟨ver, e, true, L⟩) : SlB H b e L (.ms b ver 0 n n) := by
  subst hl
  exact .inr ⟨fun h => h0 (by rw [h]; rfl), ver, rfl, hb⟩
theorem SlB.one {H : VHeap} {b e : Nat} {L : List (List DV)} {v : DV} (h : SlB H b e L v) : oneD v = true := by
  rcases h with ⟨_, rfl⟩ | ⟨_, _, rfl, _⟩ <;> rfl
/-- What is seen of it. -/
theorem SlB.frz {H : VHeap} {b e : Nat} {L : List (List DV)} {v : DV} (h : SlB H b e L v) (he : e ≠ 0) (hc : L.all closedL = true) (n : Nat) : frzD H (n + 1) v = some (.sl L) := by
  rcases h with ⟨rfl, rfl⟩ | ⟨h1, ver, rfl, h3⟩
  · rfl
  · rw [frz_ms, h3]
    simp only [VB.part, he, ne_eq, not_false_eq_true, Nat.zero_add, Nat.le_refl, and_self, ↓reduceIte, List.drop_zero, List.take_length, Option.bind_some, hc]
theorem FVF_ok {P : Prog} {sh : Nat → Bool} {g : Nat} {args : List DV} {d : DV} (h : OkF (F P sh g args [] 0) (fun e H => frzD H 6 e = some d ∧ freshD H 6 e = true)) : FVF P sh g args d := h
theorem SlB.fresh {H : VHeap} {b e : Nat} {L : List (List DV)} {v : DV} (h : SlB H b e L v) (he : e ≠ 0) (hc : L.all (fun el => el.all lit1) = true) (n : Nat) : freshD H (n + 2) v = true := by
  rcases h with ⟨rfl, rfl⟩ | ⟨h1, ver, rfl, h3⟩
  · rfl
  · simp only [freshD, h3, VB.part, he, ne_eq, not_false_eq_true, Nat.zero_add, Nat.le_refl, and_self, ↓reduceIte, List.drop_zero, List.take_length]
    rw [List.all_eq_true] at hc ⊢
    intro el hel
    have := hc el hel
    rw [List.all_eq_true] at this ⊢
    exact fun d hd => fresh_of_lit1 (this d hd)
attribute [go_sem ↓] reduceIte
attribute [go_sem] Nat.reduceEqDiff Nat.reduceAdd Nat.reduceSub Nat.reduceMul Nat.reduceLeDiff Nat.reduceLT Nat.reduceBEq Nat.reduceBNe reduceCtorEq beq_self_eq_true Int.toNat_natCast List.length_map List.length_nil Int.reduceToNat Int.reduceAdd Int.reduceSub Int.reduceMul Int.reduceLT Int.reduceLE Int.reduceEq Int.reduceBEq Int.reduceNeg decide_true decide_false Nat.le_max_left Nat.le_max_right ne_eq not_true_eq_false not_false_eq_true Int.natCast_zero gt_iff_lt ge_iff_le Int.reduceGT Int.reduceGE Bool.false_and Bool.and_false Bool.true_and Bool.and_true
end Go.Proofs.Cp
