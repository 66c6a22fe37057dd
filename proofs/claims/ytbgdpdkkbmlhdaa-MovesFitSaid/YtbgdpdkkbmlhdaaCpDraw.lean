/- A region that draws its order, with effects. No program in sight. -/
import Derived.Test.YtbgdpdkkbmlhdaaCpSound2
import Derived.Test.YtbgdpdkkbmlhdaaCpFrame
set_option linter.unusedSimpArgs false
set_option linter.unusedVariables false
namespace Go.Proofs.Cp
open Go Go.RowKit
section
variable {G : Ctx} {base : Nat} {nt : Nat} {call : Calls_}

theorem mkE_fst (T : List Nat) (os : List IOper) : (mkE T os).map (·.1) = os := by
  unfold mkE
  simp only [List.map_map, Function.comp_def]
  have : ((List.range os.length).zip os).map (fun x => x.2) = os := by
    apply List.map_snd_zip; simp
  exact this
theorem row_bit {T : List Nat} {i : Nat} : ∀ {l : List Edge} {m : Nat}, (l.foldl (fun m e => if Region.binds .any e then m ||| ((1 <<< e.on) ||| T.getD e.on 0) else m) m).testBit i = true →
    m.testBit i = true ∨ ∃ e, e ∈ l ∧ Region.binds .any e = true ∧ (e.on = i ∨ (T.getD e.on 0).testBit i = true)
  | [], m, h => .inl h
  | e :: l, m, h => by
    simp only [List.foldl_cons] at h
    rcases row_bit h with h | ⟨e', h1, h2⟩
    · split at h
      · rename_i hb
        rw [Nat.testBit_or, Nat.testBit_or, Bool.or_eq_true, Bool.or_eq_true] at h
        rcases h with h | h | h
        · exact .inl h
        · rw [Nat.one_shiftLeft, Nat.testBit_two_pow] at h
          exact .inr ⟨e, by simp, hb, .inl (by simpa using h)⟩
        · exact .inr ⟨e, by simp, hb, .inr h⟩
      · exact .inl h
    · exact .inr ⟨e', by simp [h1], h2⟩
theorem ancT_ok {ops : Array Oper} : ∀ {os : List Oper} {T : List Nat}, (∀ k, os[k]? = ops[T.length + k]?) → (∀ j i, (T.getD j 0).testBit i = true → ∃ f, anc ops f i j = true) → ∀ j i, ((ancT os T).getD j 0).testBit i = true → ∃ f, anc ops f i j = true
  | [], T, _, hT => hT
  | o :: os, T, ho, hT => by
    simp only [ancT]
    refine ancT_ok (fun k => ?_) (fun j i h => ?_)
    · have := ho (k + 1)
      simp only [List.getElem?_cons_succ] at this
      rw [this]; congr 1; simp; omega
    · rw [List.getD_eq_getElem?_getD] at h
      rcases Nat.lt_or_ge j T.length with hj | hj
      · rw [List.getElem?_append_left hj, ← List.getD_eq_getElem?_getD] at h
        exact hT j i h
      · rw [List.getElem?_append_right hj] at h
        rcases Nat.eq_zero_or_pos (j - T.length) with h0 | h0
        · have hjT : j = T.length := by omega
          rw [h0] at h
          simp only [List.getElem?_cons_zero, Option.getD_some] at h
          have hoj : ops[j]? = some o := by
            have := ho 0
            simp only [List.getElem?_cons_zero, Nat.add_zero] at this
            rw [hjT]; exact this.symm
          rcases row_bit h with h | ⟨e, h1, h2, h3⟩
          · simp at h
          · rcases h3 with h3 | h3
            · exact ⟨1, by simp only [anc, hoj, List.any_eq_true]; exact ⟨e, h1, by simp [h2, h3]⟩⟩
            · obtain ⟨f, hf⟩ := hT _ _ h3
              exact ⟨f + 1, by simp only [anc, hoj, List.any_eq_true]; exact ⟨e, h1, by simp [h2, hf]⟩⟩
        · rw [List.getElem?_eq_none (by simp; omega)] at h
          simp at h
/-- Operation i comes before operation j. -/
def Anc (ops : Array Oper) (i j : Nat) : Prop := ∃ f, anc ops f i j = true
theorem ancB_ok {ops : Array Oper} {i j : Nat} (h : ancB (ancT ops.toList []) i j = true) : Anc ops i j :=
  ancT_ok (T := []) (fun k => by simp) (fun j i h => by simp at h) j i h
theorem anc_lt {ops : Array Oper} (hd : drawOk ops = true) : ∀ {f i j : Nat}, anc ops f i j = true → i < j
  | 0, i, j, h => by simp [anc] at h
  | f + 1, i, j, h => by
    simp only [anc] at h
    split at h
    · simp at h
    · rename_i o ho
      simp only [List.any_eq_true, Bool.and_eq_true, Bool.or_eq_true, beq_iff_eq] at h
      obtain ⟨e, he, hb, h⟩ := h
      have h1 := (drawOk_spec hd ho).1 e (by simpa using he) hb
      rcases h with h | h
      · omega
      · have := anc_lt hd h; omega
theorem anc_listed {ops : Array Oper} {listed : Array Bool} (hcl : ∀ (j : Nat) (o : Oper), listed.getD j false = true → ops[j]? = some o → ∀ e ∈ o.after, Region.binds .any e = true → listed.getD e.on false = true) :
    ∀ {f i j : Nat} {o : Oper}, ops[j]? = some o → (∀ e ∈ o.after, Region.binds .any e = true → listed.getD e.on false = true) → anc ops f i j = true → listed.getD i false = true
  | 0, i, j, o, ho, hdeps, h => by simp [anc] at h
  | f + 1, i, j, o, ho, hdeps, h => by
    simp only [anc, ho, List.any_eq_true, Bool.and_eq_true, Bool.or_eq_true, beq_iff_eq] at h
    obtain ⟨e, he, hb, h⟩ := h
    have h1 := hdeps e (by simpa using he) hb
    rcases h with h | h
    · rw [← h]; exact h1
    · cases ho2 : ops[e.on]? with
      | none => 
        cases f with
        | zero => simp [anc] at h
        | succ f => simp [anc, ho2] at h
      | some p => exact anc_listed hcl ho2 (hcl e.on p h1 ho2) h

theorem runOpsE_get : ∀ {l : List IO4} {s sF : ESt}, runOpsE call l s = some sF →
    ∃ E : Nat → ESt, E 0 = s ∧ E l.length = sF ∧ ∀ i x, l[i]? = some x → runOpE call x (E i) = some (E (i + 1))
  | [], s, sF, hr => by
    simp [runOpsE] at hr; subst hr
    exact ⟨fun _ => s, rfl, rfl, fun i io hi => by simp at hi⟩
  | o :: os, s, sF, hr => by
    simp only [runOpsE, Option.bind_eq_some_iff] at hr
    obtain ⟨e1, h1, h2⟩ := hr
    obtain ⟨E, hE0, hEn, hEs⟩ := runOpsE_get h2
    refine ⟨fun i => match i with | 0 => s | i + 1 => E i, rfl, by simpa using hEn, fun i io hi => ?_⟩
    cases i with
    | zero => simp at hi; subst hi; simp only [hE0]; exact h1
    | succ i => simp at hi; exact hEs i io hi
theorem iop_pure {op : IOp} (hp : pureOp op = true) {e : Env} {h h' : Heap} {v : Value} {ef : Eff} (hi : iop call op e h = some (v, ef)) : ef = none ∧ iop call op e h' = some (v, ef) := by
  cases op <;> simp only [pureOp, Bool.false_eq_true] at hp <;> refine ⟨?_, hi⟩ <;> simp only [iop] at hi <;> (repeat' split at hi) <;> simp only [Option.map_eq_some_iff, Option.some.injEq, Prod.mk.injEq, reduceCtorEq] at hi <;> first | exact hi.2.symm | (obtain ⟨_, _, _, hq⟩ := hi; exact hq.symm)
theorem load_opd {ok : Nat → Bool} {op : Op} {io : IOp} (hc : cOp G ok op = some io) (hlo : loadOp io = true) : ∃ x y, cOpd G ok x = some y ∧
    ∀ e b, loadBlk e io = some b → (∃ a, ev e y = .pointer (some a) ∧ a.block = b) ∨ (∃ a l c, ev e y = .slice (some a) l c ∧ a.block = b) := by
  cases op
  case load t a =>
    simp only [cOp] at hc
    split at hc
    · exfalso
      unfold cGlob at hc
      repeat' split at hc
      all_goals (first | (simp at hc; done) | skip)
      all_goals (simp at hc; subst hc; simp [loadOp] at hlo)
    · simp only [Option.bind_eq_some_iff] at hc
      obtain ⟨y, h1, hc⟩ := hc
      refine ⟨_, y, h1, fun e b hb => .inl ?_⟩
      split at hc
      · simp at hc; subst hc
        simp only [loadBlk] at hb
        split at hb
        · rename_i p hp; simp at hb; exact ⟨p, hp, hb⟩
        · simp at hb
      · simp at hc; subst hc
        simp only [loadBlk] at hb
        split at hb
        · rename_i p hp; simp at hb; exact ⟨p, hp, hb⟩
        · simp at hb
      · simp at hc
  case slice t x lo hi mx =>
    simp only [cOp] at hc
    split at hc
    · simp at hc
    · simp only [Option.bind_eq_some_iff] at hc
      obtain ⟨y, h1, lo', _, hi', _, hc⟩ := hc
      refine ⟨_, y, h1, fun e b hb => .inr ?_⟩
      split at hc
      · split at hc
        · simp at hc; subst hc
          simp only [loadBlk] at hb
          split at hb
          · rename_i p l c hp
            split at hb
            · simp at hb
            · simp at hb; exact ⟨p, l, c, hp, hb⟩
          · simp at hb
        · simp at hc
      · simp at hc
  all_goals
    exfalso
    simp only [cOp] at hc
    repeat' (first | (simp only [reduceCtorEq] at hc; done) | (simp only [Option.some.injEq] at hc; subst hc; simp only [loadOp, Bool.false_eq_true] at hlo; done) | (subst hc; simp only [loadOp, Bool.false_eq_true] at hlo; done) | (obtain ⟨_, _, hc⟩ := hc) | (simp only [Option.bind_eq_some_iff] at hc) | (simp only [Option.map_eq_some_iff] at hc) | split at hc)
    all_goals unfold cBuiltin at hc
    repeat' (first | (simp only [reduceCtorEq] at hc; done) | (simp only [Option.some.injEq] at hc; subst hc; simp only [loadOp, Bool.false_eq_true] at hlo; done) | (subst hc; simp only [loadOp, Bool.false_eq_true] at hlo; done) | (obtain ⟨_, _, hc⟩ := hc) | (simp only [Option.bind_eq_some_iff] at hc) | (simp only [Option.map_eq_some_iff] at hc) | split at hc)
theorem iop_load {op : IOp} (hp : loadOp op = true) {e : Env} {h h' : Heap} {v : Value} {ef : Eff} (hb : ∀ b, loadBlk e op = some b → h'[b]? = h[b]? ∨ h[b]? = none) (hi : iop call op e h = some (v, ef)) : ef = none ∧ iop call op e h' = some (v, ef) := by
  cases op <;> simp only [loadOp, Bool.false_eq_true] at hp
  case load1 a =>
    simp only [iop] at hi ⊢
    split at hi
    · rename_i p hp
      simp only [loadBlk, hp] at hb
      rcases hb p.block rfl with this | this
      case inr => simp [hp, ld1, this] at hi
      simp only [hp, ld1, this] at hi ⊢
      refine ⟨?_, hi⟩
      simp only [Option.map_eq_some_iff, Prod.mk.injEq] at hi
      obtain ⟨_, _, _, rfl⟩ := hi; rfl
    · simp at hi
  case loadN n a =>
    simp only [iop] at hi ⊢
    split at hi
    · rename_i p hp
      simp only [loadBlk, hp] at hb
      rcases hb p.block rfl with this | this
      case inr => simp [hp, ldN, this] at hi
      simp only [hp, ldN, this] at hi ⊢
      refine ⟨?_, hi⟩
      simp only [Option.map_eq_some_iff, Prod.mk.injEq] at hi
      obtain ⟨_, _, _, rfl⟩ := hi; rfl
    · simp at hi
  case slice esz x lo hi' =>
    simp only [iop] at hi ⊢
    split at hi
    · rename_i b l c hp
      have hs : ∀ w, sliceV esz h b l c (lo.map (ev e)) (hi'.map (ev e)) = some w → sliceV esz h' b l c (lo.map (ev e)) (hi'.map (ev e)) = some w := by
        intro w hw
        cases b with
        | none => exact hw
        | some p =>
          simp only [loadBlk, hp] at hb
          by_cases hlc : l = 0 ∧ c = 0
          · obtain ⟨rfl, rfl⟩ := hlc
            simp only [sliceV, Option.bind_eq_some_iff] at hw ⊢
            obtain ⟨z, h1, y, h2, hw⟩ := hw
            refine ⟨z, h1, y, h2, ?_⟩
            have hz : z = 0 := by
              revert h1
              generalize hi'.map (ev e) = q
              intro h1
              split at h1
              · simpa using h1.symm
              · split at h1
                · simp at h1; omega
                · simp at h1
              · simp at h1
            subst hz
            have hy : y = 0 := by
              revert h2
              generalize lo.map (ev e) = q
              intro h2
              split at h2
              · simpa using h2.symm
              · split at h2
                · simp at h2; omega
                · simp at h2
              · simp at h2
            subst hy
            simpa using hw
          rw [if_neg hlc] at hb
          rcases hb p.block rfl with this | this
          · simp only [sliceV, this] at hw ⊢; exact hw
          · simp only [sliceV, Option.bind_eq_some_iff] at hw ⊢
            obtain ⟨z, h1, y, h2, hw⟩ := hw
            refine ⟨z, h1, y, h2, ?_⟩
            split
            · rename_i h0; rw [if_pos h0] at hw; exact hw
            · rename_i h0; rw [if_neg h0, this] at hw; simp at hw
      simp only [Option.map_eq_some_iff, Prod.mk.injEq] at hi
      obtain ⟨w, h1, rfl, rfl⟩ := hi
      refine ⟨rfl, ?_⟩
      simp only [hp, hs w h1, Option.map_some]
    · simp at hi
/-- What is known of the text's run. -/
structure TR (call : Calls_) (l : List IO4) (E : Nat → ESt) : Prop where
  step : ∀ i x, l[i]? = some x → runOpE call x (E i) = some (E (i + 1))
/-- The kinds are right. -/
def KOk (x : IO4) : Prop := x.2.1 ≤ 2 ∨ ∃ zs, zsE x = some zs
theorem zsE_kind {x : IO4} {zs : List Value} (h : zsE x = some zs) : x.2.1 = 3 ∧ x.1.op = .alloc zs ∧ x.1.guard = none := by
  unfold zsE at h
  split at h
  · rename_i h3
    split at h
    · rename_i h4 h5; simp at h; subst h; exact ⟨h3, h4, h5⟩
    · simp at h
  · simp at h
theorem KOk.le {x : IO4} (hk : KOk x) (hz : zsE x = none) : x.2.1 ≤ 2 := by
  rcases hk with h | ⟨zs, h⟩
  · exact h
  · rw [hz] at h; cases h
theorem rkE_mono (l : List IO4) : ∀ {i j : Nat}, i ≤ j → rkE l i ≤ rkE l j := by
  intro i j hij
  unfold rkE
  have : l.take i = (l.take j).take i := by rw [List.take_take, Nat.min_eq_left hij]
  rw [this]
  exact ((List.take_sublist i (l.take j)).filter _).length_le
theorem rkE_succ {l : List IO4} {i : Nat} {x : IO4} (hx : l[i]? = some x) : rkE l (i + 1) = rkE l i + if x.2.1 == 2 then 1 else 0 := by
  unfold rkE
  rw [List.take_add_one, hx]
  simp only [Option.toList_some, List.filter_append, List.length_append]
  by_cases h : x.2.1 == 2 <;> simp [h]
theorem TR.hist {l : List IO4} {E : Nat → ESt} (ht : TR call l E) (hk : ∀ (i : Nat) (x : IO4), l[i]? = some x → KOk x) (h0 : (E 0).hist = []) : ∀ i, i ≤ l.length → (E i).hist.length = rkE l i ∧ ∀ j, j ≤ i → (E j).hist <+: (E i).hist := by
  intro i
  induction i with
  | zero =>
    intro _
    refine ⟨by rw [h0]; simp [rkE], fun j hj => ?_⟩
    have : j = 0 := by omega
    subst this; exact List.prefix_refl _
  | succ i ih =>
    intro hi
    obtain ⟨h1, h2⟩ := ih (by omega)
    have hx : l[i]? = some l[i] := List.getElem?_eq_getElem (by omega)
    have hs := ht.step i _ hx
    have hkx := hk i _ hx
    have key : (E (i + 1)).hist.length = (E i).hist.length + (if (l[i]).2.1 == 2 then 1 else 0) ∧ (E i).hist <+: (E (i + 1)).hist := by
      unfold runOpE at hs
      split at hs
      · rename_i zs hz
        have := (zsE_kind hz).1
        simp at hs; rw [← hs]; simp [this]
      · rename_i hz
        have hkx := hkx.le hz
        split at hs
        · simp only [Option.bind_eq_some_iff] at hs
          obtain ⟨r, _, hs⟩ := hs
          split at hs
          · rename_i hq
            split at hs
            · simp at hs; rw [← hs]; simp [hq]
            · simp at hs
          · rename_i hq
            split at hs
            · split at hs <;> (simp at hs; rw [← hs]; simp [hq])
            · simp at hs
          · rename_i hq0 hq1
            have hq : (l[i]).2.1 = 2 := by
              have a0 : (l[i]).2.1 ≠ 0 := hq0
              have a1 : (l[i]).2.1 ≠ 1 := hq1
              omega
            simp at hs; rw [← hs]; simp [hq]
        · simp at hs
          rw [← hs]
          by_cases hq : (l[i]).2.1 = 2 <;> simp [hq]
    refine ⟨by rw [key.1, h1, rkE_succ hx], fun j hj => ?_⟩
    by_cases hji : j = i + 1
    · subst hji; exact List.prefix_refl _
    · exact (h2 j (by omega)).trans key.2
/-- One operation of the text's run: what it asked, what it left. -/
theorem runOpE_cases {x : IO4} (hk : KOk x) {s s' : ESt} (hr : runOpE call x s = some s') : s'.n0 = s.n0 ∧
    ((wants s.st.env x.1.guard = true ∧ zsE x = none ∧ ∃ v ef, iop call x.1.op s.st.env s.st.heap = some (v, ef) ∧ s'.st = s.st.eff x.1.dst v ef ∧
      ((x.2.1 = 0 ∧ pureOp x.1.op = true ∧ s'.hist = s.hist ∧ s'.ld = s.ld) ∨
       (x.2.1 = 1 ∧ loadOp x.1.op = true ∧ s'.hist = s.hist ∧ (∀ y, y ∈ s.ld → y ∈ s'.ld) ∧ ∀ b, loadBlk s.st.env x.1.op = some b → (b, x.2.2.1, x.2.2.2) ∈ s'.ld) ∨
       (x.2.1 = 2 ∧ s'.hist = s.hist ++ [(s.st.heap.length, effW ef)] ∧ s'.ld = s.ld))) ∨
    (wants s.st.env x.1.guard = false ∧ zsE x = none ∧ s'.st = { s.st with env := setO s.st.env x.1.dst undef } ∧ s'.ld = s.ld ∧ ((x.2.1 ≠ 2 ∧ s'.hist = s.hist) ∨ (x.2.1 = 2 ∧ s'.hist = s.hist ++ [(s.st.heap.length, [])]))) ∨
    (∃ zs, zsE x = some zs ∧ s'.st = { s.st with env := setO s.st.env x.1.dst (.pointer (some ⟨s.n0 + x.2.2.1, 0, none⟩)) } ∧ s'.hist = s.hist ∧ s'.ld = (s.n0 + x.2.2.1, 0, x.2.2.2) :: s.ld)) := by
  unfold runOpE at hr
  split at hr
  · rename_i zs hz
    simp at hr; subst hr
    exact ⟨rfl, .inr (.inr ⟨zs, hz, rfl, rfl, rfl⟩)⟩
  · rename_i hz
    have hk := hk.le hz
    split at hr
    · rename_i hw
      simp only [Option.bind_eq_some_iff] at hr
      obtain ⟨⟨v, ef⟩, h1, h2⟩ := hr
      have fin : s'.n0 = s.n0 ∧ (s'.st = s.st.eff x.1.dst v ef ∧
        ((x.2.1 = 0 ∧ pureOp x.1.op = true ∧ s'.hist = s.hist ∧ s'.ld = s.ld) ∨
         (x.2.1 = 1 ∧ loadOp x.1.op = true ∧ s'.hist = s.hist ∧ (∀ y, y ∈ s.ld → y ∈ s'.ld) ∧ ∀ b, loadBlk s.st.env x.1.op = some b → (b, x.2.2.1, x.2.2.2) ∈ s'.ld) ∨
         (x.2.1 = 2 ∧ s'.hist = s.hist ++ [(s.st.heap.length, effW ef)] ∧ s'.ld = s.ld))) := by
        split at h2
        · rename_i hq
          split at h2
          · rename_i hp; simp at h2; subst h2; exact ⟨rfl, rfl, .inl ⟨hq, hp, rfl, rfl⟩⟩
          · simp at h2
        · rename_i hq
          split at h2
          · rename_i hp
            split at h2
            · rename_i b hb
              simp at h2; subst h2
              exact ⟨rfl, rfl, .inr (.inl ⟨hq, hp, rfl, fun y hy => List.mem_cons_of_mem _ hy, fun b' hb' => by rw [hb] at hb'; simp at hb'; subst hb'; simp⟩)⟩
            · rename_i hb
              simp at h2; subst h2
              exact ⟨rfl, rfl, .inr (.inl ⟨hq, hp, rfl, fun y hy => hy, fun b' hb' => by rw [hb] at hb'; simp at hb'⟩)⟩
          · simp at h2
        · rename_i hq0 hq1
          have a0 : x.2.1 ≠ 0 := hq0
          have a1 : x.2.1 ≠ 1 := hq1
          simp at h2; subst h2
          exact ⟨rfl, rfl, .inr (.inr ⟨by omega, rfl, rfl⟩)⟩
      exact ⟨fin.1, .inl ⟨hw, hz, v, ef, h1, fin.2⟩⟩
    · rename_i hw
      simp at hr; subst hr
      refine ⟨rfl, .inr (.inl ⟨by simpa using hw, hz, rfl, rfl, ?_⟩)⟩
      by_cases hq : x.2.1 = 2
      · right; exact ⟨hq, by simp [hq]⟩
      · left; exact ⟨hq, by simp [hq]⟩
theorem okE_spec {ops : Array Oper} {l : List IO4} (hok : okE (ancT ops.toList []) l = true) : (∀ (i : Nat) (x : IO4), l[i]? = some x → KOk x ∧ ∀ zs, zsE x = some zs → x.2.2.1 = (preE (l.take i)).length) ∧
    ∀ (i j : Nat) (x y : IO4), l[i]? = some x → l[j]? = some y → y.2.1 = 2 →
      (x.2.1 = 1 → (x.2.2.1 ≤ rkE l j ∨ Anc ops j i) ∧ (rkE l j < x.2.2.2 ∨ Anc ops i j)) ∧ (x.2.1 = 2 → i ≤ j ∨ Anc ops j i) ∧
      (x.2.1 = 3 → rkE l j < x.2.2.2 ∨ Anc ops i j) := by
  unfold okE at hok
  simp only [Bool.and_eq_true, List.all_eq_true] at hok
  obtain ⟨h1, h2⟩ := hok
  refine ⟨fun i x hx => ?_, fun i j x y hx hy hk => ?_⟩
  · have h3 := h1 i (List.mem_range.2 (List.getElem?_eq_some_iff.1 hx).1)
    rw [hx] at h3
    simp only [Bool.or_eq_true, decide_eq_true_eq, Bool.and_eq_true, Option.isSome_iff_exists, beq_iff_eq] at h3
    rcases h3 with h3 | ⟨h3, h4⟩
    · exact ⟨.inl h3, fun zs hz => by have := (zsE_kind hz).1; omega⟩
    · exact ⟨.inr h3, fun _ _ => h4⟩
  have h3 := h2 i (List.mem_range.2 (List.getElem?_eq_some_iff.1 hx).1)
  rw [hx] at h3
  simp only [List.all_eq_true] at h3
  have h4 := h3 j (List.mem_range.2 (List.getElem?_eq_some_iff.1 hy).1)
  rw [hy] at h4
  simp only [hk, bne_self_eq_false, Bool.false_or] at h4
  refine ⟨fun hx1 => ?_, fun hx2 => ?_, fun hx3 => ?_⟩
  · simp only [hx1, Bool.and_eq_true, Bool.or_eq_true, decide_eq_true_eq] at h4; exact ⟨h4.1.imp id ancB_ok, h4.2.imp id ancB_ok⟩
  · simp only [hx2, Bool.or_eq_true, decide_eq_true_eq] at h4; exact h4.imp id ancB_ok
  · simp only [hx3, Bool.or_eq_true, decide_eq_true_eq] at h4; exact h4.imp id ancB_ok
/-- The numbers of the variables that are made at any time. -/
theorem preE_at {l : List IO4} {i : Nat} {x : IO4} {zs : List Value} (hx : l[i]? = some x) (hz : zsE x = some zs) : (preE l)[(preE (l.take i)).length]? = some zs := by
  have hlt := (List.getElem?_eq_some_iff.1 hx).1
  have he : preE l = preE (l.take i) ++ zs :: preE (l.drop (i + 1)) := by
    conv => lhs; rw [← List.take_append_drop i l]
    rw [List.drop_eq_getElem_cons hlt]
    have : l[i] = x := (List.getElem?_eq_some_iff.1 hx).2
    simp [preE, this, hz]
  rw [he, List.getElem?_append_right (Nat.le_refl _)]; simp
theorem preE_ne {l : List IO4} {i j : Nat} {x y : IO4} {zs ws : List Value} (hx : l[i]? = some x) (hz : zsE x = some zs) (hy : l[j]? = some y) (hw : zsE y = some ws) (hij : i < j) : (preE (l.take i)).length < (preE (l.take j)).length := by
  have hlt := (List.getElem?_eq_some_iff.1 hx).1
  have hx' : (l.take j)[i]? = some x := by rw [List.getElem?_take, if_pos hij]; exact hx
  have := (List.getElem?_eq_some_iff.1 (preE_at hx' hz)).1
  rw [List.take_take, Nat.min_eq_left (Nat.le_of_lt hij)] at this
  exact this
variable {l : List IO4} {E : Nat → ESt}
theorem TR.quiet (ht : TR call l E) {j : Nat} {x : IO4} (hx : l[j]? = some x) (hk : KOk x) (hn : x.2.1 ≠ 2) : (E (j + 1)).st.heap = (E j).st.heap := by
  rcases (runOpE_cases hk (ht.step j x hx)).2 with ⟨_, _, v, ef, h1, h2, h3⟩ | ⟨_, _, h2, _⟩ | ⟨zs, _, h2, _⟩
  · have : ef = none := by
      rcases h3 with ⟨_, hp, _⟩ | ⟨_, hp, _⟩ | ⟨h, _⟩
      · exact (iop_pure (h' := (E j).st.heap) hp h1).1
      · exact (iop_load (h' := (E j).st.heap) hp (fun _ _ => .inl rfl) h1).1
      · exact absurd h hn
    subst this
    rw [h2]; rfl
  · rw [h2]
  · rw [h2]
theorem TR.same (ht : TR call l E) (hk : ∀ (i : Nat) (x : IO4), l[i]? = some x → KOk x) {p : Nat} : ∀ {q : Nat}, p ≤ q → q ≤ l.length → (∀ (j : Nat) (x : IO4), p ≤ j → j < q → l[j]? = some x → x.2.1 ≠ 2) → (E q).st.heap = (E p).st.heap := by
  intro q
  induction q with
  | zero => intro h _ _; have : p = 0 := by omega
            subst this; rfl
  | succ q ih =>
    intro h1 h2 h3
    by_cases hp : p = q + 1
    · subst hp; rfl
    · have hx : l[q]? = some l[q] := List.getElem?_eq_getElem (by omega)
      rw [ht.quiet hx (hk q _ hx) (h3 q _ (by omega) (by omega) hx)]
      exact ih (by omega) (by omega) (fun j x h4 h5 => h3 j x h4 (by omega))
theorem TR.blk (hfr : CallFr call) (ht : TR call l E) (hk : ∀ (i : Nat) (x : IO4), l[i]? = some x → KOk x) (h0 : (E 0).hist = []) {b p : Nat} (hbp : b < (E p).st.heap.length) : ∀ {q : Nat}, p ≤ q → q ≤ l.length →
    (∀ (j : Nat) (x : IO4), p ≤ j → j < q → l[j]? = some x → x.2.1 = 2 → ∃ n w, (E l.length).hist[rkE l j]? = some (n, w) ∧ b ∉ w) → (E q).st.heap[b]? = (E p).st.heap[b]? := by
  intro q
  induction q with
  | zero => intro h _ _; have : p = 0 := by omega
            subst this; rfl
  | succ q ih =>
    intro h1 h2 h3
    by_cases hp : p = q + 1
    · subst hp; rfl
    · have hx : l[q]? = some l[q] := List.getElem?_eq_getElem (by omega)
      have hi := ih (by omega) (by omega) (fun j x h4 h5 => h3 j x h4 (by omega))
      rw [← hi]
      by_cases hn : (l[q]).2.1 = 2
      · obtain ⟨n, w, h4, h6⟩ := h3 q _ (by omega) (by omega) hx hn
        have h5 : b < (E q).st.heap.length := by
          rcases Nat.lt_or_ge b (E q).st.heap.length with h | h
          · exact h
          · rw [List.getElem?_eq_none h, List.getElem?_eq_getElem hbp] at hi; cases hi
        have hlen := (ht.hist hk h0 q (by omega)).1
        have hpre := (ht.hist hk h0 l.length (Nat.le_refl _)).2 (q + 1) (by omega)
        have hat : ∀ (e : Nat × List Nat), (E (q + 1)).hist = (E q).hist ++ [e] → e = (n, w) := by
          intro e he
          obtain ⟨t, ht⟩ := hpre
          rw [← ht, he, ← hlen] at h4
          simpa using h4
        rcases (runOpE_cases (hk q _ hx) (ht.step q _ hx)).2 with ⟨_, _, v, ef, h7, h8, h9⟩ | ⟨_, _, h8, _⟩ | ⟨zs, hz, _⟩
        · rcases h9 with ⟨h, _⟩ | ⟨h, _⟩ | ⟨_, h10, _⟩
          · omega
          · omega
          · have := hat _ h10
            simp only [Prod.mk.injEq] at this
            obtain ⟨e1, e2⟩ := this
            rw [h8]
            cases ef with
            | none => rfl
            | some r =>
              obtain ⟨h', w'⟩ := r
              simp only [effW] at e2
              subst e2
              exact (iop_fr hfr h7).get b h5 h6
        · rw [h8]
        · have := (zsE_kind hz).1; omega
      · rw [ht.quiet hx (hk q _ hx) hn]

theorem alloc_inv {ok : Nat → Bool} {op : Op} {zs : List Value} (hc : cOp G ok op = some (.alloc zs)) : ∃ t, op = .alloc t ∧ zeroOf G t = some zs := by
  cases op
  case alloc t =>
    simp only [cOp, Option.map_eq_some_iff, IOp.alloc.injEq] at hc
    obtain ⟨_, h, rfl⟩ := hc
    exact ⟨t, rfl, h⟩
  all_goals
    exfalso
    simp only [cOp] at hc
    repeat' (first | (simp only [reduceCtorEq] at hc; done) | (simp only [Option.some.injEq, reduceCtorEq] at hc; done) | (obtain ⟨_, _, hc⟩ := hc) | (simp only [Option.bind_eq_some_iff] at hc) | (simp only [Option.map_eq_some_iff] at hc) | split at hc)
    all_goals (first | unfold cBuiltin at hc | unfold cGlob at hc)
    repeat' (first | (simp only [reduceCtorEq] at hc; done) | (simp only [Option.some.injEq, reduceCtorEq] at hc; done) | (obtain ⟨_, _, hc⟩ := hc) | (simp only [Option.bind_eq_some_iff] at hc) | (simp only [Option.map_eq_some_iff] at hc) | split at hc)
theorem guard_none {ok : Nat → Bool} {ops : Array Oper} {o : Oper} {io : IOper} (hc : cOper G nt ok ops o = some io) (hg : io.guard = none) : o.guard = none := by
  unfold cOper at hc
  split at hc
  · simp only [Option.bind_eq_some_iff] at hc
    obtain ⟨op, h1, hc⟩ := hc
    split at hc
    · assumption
    · split at hc
      · split at hc
        · simp at hc; subst hc; simp at hg
        · simp at hc
      · simp at hc
  · simp at hc
theorem TR.n0 (ht : TR call l E) (hk : ∀ (i : Nat) (x : IO4), l[i]? = some x → KOk x) : ∀ i, i ≤ l.length → (E i).n0 = (E 0).n0 := by
  intro i
  induction i with
  | zero => intro _; rfl
  | succ i ih =>
    intro hi
    have hx : l[i]? = some l[i] := List.getElem?_eq_getElem (by omega)
    rw [(runOpE_cases (hk i _ hx) (ht.step i _ hx)).1, ih (by omega)]
theorem drawE_sound (hcall : CallSound G call) (hfr : CallFr call) {ops : Array Oper} {os : List IOper} {Q : Exit → Act → World → Prop} (hd : drawOk ops = true) (hc : cOpersD G nt ops ops.toList = some os) (hl : l.map (·.1) = os) (hok : okE (ancT ops.toList []) l = true)
    (ht : TR call l E) (hh0 : (E 0).hist = []) (hpre0 : ∀ k zs, (preE l)[k]? = some zs → (E 0).st.heap[(E 0).n0 + k]? = some (.cells false 0 zs)) (hld : (E l.length).ld.all (ldOk (E l.length).hist) = true) {W0 : World} {S0 : Inj} (hS0 : S0.n ≤ (E 0).n0)
    (hQ : ∀ S a' W', Ext S0 S → a'.tmps.size = nt → ER G.T S (inT nt) (E l.length).st.env a'.tmps → HR G.T S base (E l.length).st.heap W' → GL G base W' → a'.defers = [] → Below base W0 W' → Q .normal a' W') :
    ∀ (fuel : Nat) (listed : Array Bool) (a : Act) (W : World) (S : Inj) (p : Nat), listed.size = ops.size → unlisted listed ≤ fuel → a.tmps.size = nt → p ≤ l.length →
      (∀ (j : Nat) (x : IO4), l[j]? = some x → x.2.1 = 2 → (listed.getD j false = true ↔ j < p)) → Ext S0 S → HR G.T S base (E p).st.heap W → GL G base W → a.defers = [] → Below base W0 W →
      (∀ (j : Nat) (o : Oper), listed.getD j false = true → ops[j]? = some o → ∀ e ∈ o.after, Region.binds .any e = true → listed.getD e.on false = true) →
      (∀ t, t < nt → (∀ (j : Nat) (o : Oper), ops[j]? = some o → o.dst = some t → listed.getD j false = false) → VR G.T S (get (E 0).st.env t) (a.tmps.getD t undef)) →
      (∀ (j : Nat) (o : Oper) (t : Nat), ops[j]? = some o → o.dst = some t → listed.getD j false = true → VR G.T S (get (E l.length).st.env t) (a.tmps.getD t undef)) →
      (∀ (j : Nat) (x : IO4) (zs : List Value), l[j]? = some x → zsE x = some zs → listed.getD j false = false → S.ok ((E 0).n0 + x.2.2.1) = false ∧ (E 0).n0 + x.2.2.1 < S.n) →
      wpAny G.P .any ops Q fuel listed a W := by
  obtain ⟨hlen, hget⟩ := cOpersD_get hc
  obtain ⟨hkk, hsp⟩ := okE_spec hok
  have hk := fun i x hx => (hkk i x hx).1
  have hll : l.length = os.length := by rw [← hl]; simp
  have hlen' : l.length = ops.size := by rw [hll]; simpa using hlen
  have hget' : ∀ (i : Nat) (o : Oper), ops[i]? = some o → ∃ x, l[i]? = some x ∧ cOper G nt (okAt nt ops o) ops o = some x.1 := fun i o hi => by
    obtain ⟨io, h1, h2⟩ := hget i o (by simpa using hi)
    rw [← hl, List.getElem?_map, Option.map_eq_some_iff] at h1
    obtain ⟨x, h3, rfl⟩ := h1
    exact ⟨x, h3, h2⟩
  have frame : ∀ (i : Nat) (x : IO4) (t : Nat), l[i]? = some x → x.1.dst ≠ some t → get (E (i + 1)).st.env t = get (E i).st.env t := by
    intro i x t hx hdt
    have hset : ∀ v, get (setO (E i).st.env x.1.dst v) t = get (E i).st.env t := by
      intro v
      cases hdd : x.1.dst with
      | none => rfl
      | some d => exact get_set_ne _ _ (fun e => hdt (by rw [hdd, e]))
    rcases (runOpE_cases (hk i x hx) (ht.step i x hx)).2 with ⟨_, _, v, ef, _, h2, _⟩ | ⟨_, _, h2, _⟩ | ⟨_, _, h2, _⟩
    · rw [h2]; cases ef <;> exact hset v
    · rw [h2]; exact hset _
    · rw [h2]; exact hset _
  have ldmono : ∀ j, j ≤ l.length → ∀ y, y ∈ (E j).ld → y ∈ (E l.length).ld := by
    intro j hj
    obtain ⟨n, hn⟩ : ∃ n, l.length = j + n := ⟨l.length - j, by omega⟩
    induction n generalizing j with
    | zero => intro y hy; rw [hn]; exact hy
    | succ n ih =>
      intro y hy
      refine ih (j + 1) (by omega) (by omega) y ?_
      have hx : l[j]? = some l[j] := List.getElem?_eq_getElem (by omega)
      rcases (runOpE_cases (hk j _ hx) (ht.step j _ hx)).2 with ⟨_, _, v, ef, _, _, h3⟩ | ⟨_, _, _, h3, _⟩ | ⟨_, _, _, _, h3⟩
      · rcases h3 with ⟨_, _, _, h4⟩ | ⟨_, _, _, h4, _⟩ | ⟨_, _, h4⟩
        · rw [h4]; exact hy
        · exact h4 y hy
        · rw [h4]; exact hy
      · rw [h3]; exact hy
      · rw [h3]; exact List.mem_cons_of_mem _ hy
  have hist_some : ∀ (j : Nat) (y : IO4), l[j]? = some y → y.2.1 = 2 → (E l.length).hist[rkE l j]? ≠ none := by
    intro j y hy hy2 hn
    have h1 := (ht.hist hk hh0 l.length (Nat.le_refl _)).1
    have hjl := (List.getElem?_eq_some_iff.1 hy).1
    have h2 := rkE_succ hy
    have h3 := rkE_mono l (show j + 1 ≤ l.length by omega)
    rw [List.getElem?_eq_none_iff] at hn
    simp [hy2] at h2
    omega
  have stay : ∀ (t : Nat) (k m : Nat), k ≤ m → m ≤ l.length → (∀ (j : Nat) (o : Oper), k ≤ j → j < m → ops[j]? = some o → o.dst ≠ some t) → get (E m).st.env t = get (E k).st.env t := by
    intro t k m hkl
    induction m with
    | zero => intro _ _; have : k = 0 := by omega
              subst this; rfl
    | succ m ih =>
      intro hl' hno
      by_cases hkm : k = m + 1
      · subst hkm; rfl
      · have hlt : m < ops.size := by omega
        obtain ⟨x, h1, h2⟩ := hget' m ops[m] (Array.getElem?_eq_getElem hlt)
        have hdst := (cOper_op h2).2.1
        rw [frame m x t h1 (by rw [hdst]; exact hno m _ (by omega) (by omega) (Array.getElem?_eq_getElem hlt))]
        exact ih (by omega) (by omega) (fun j o h3 h4 => hno j o h3 (by omega))
  have ready_ex : ∀ (listed : Array Bool), listed.size = ops.size → Region.ready .any ops listed = [] → ∀ j, j < ops.size → listed.getD j false = true := by
    intro listed hsz hr j
    induction j using Nat.strongRecOn with
    | _ j ih =>
      intro hj
      cases hb : listed.getD j false with
      | true => rfl
      | false =>
        have hmem : j ∈ Region.ready .any ops listed := by
          rw [mem_ready]
          refine ⟨?_, ops[j], Array.getElem?_eq_getElem hj, fun e he hbd => ?_⟩
          · have hjl : j < listed.size := by omega
            simp [hjl] at hb ⊢; exact hb
          · have := (drawOk_spec hd (Array.getElem?_eq_getElem hj)).1 e he hbd
            exact ih e.on this (by omega)
        rw [hr] at hmem; cases hmem
  have fin : ∀ (listed : Array Bool) (a : Act) (W : World) (S : Inj) (p : Nat), listed.size = ops.size → Region.ready .any ops listed = [] → a.tmps.size = nt → p ≤ l.length →
      (∀ (j : Nat) (x : IO4), l[j]? = some x → x.2.1 = 2 → (listed.getD j false = true ↔ j < p)) → Ext S0 S → HR G.T S base (E p).st.heap W → GL G base W → a.defers = [] → Below base W0 W →
      (∀ t, t < nt → (∀ (j : Nat) (o : Oper), ops[j]? = some o → o.dst = some t → listed.getD j false = false) → VR G.T S (get (E 0).st.env t) (a.tmps.getD t undef)) →
      (∀ (j : Nat) (o : Oper) (t : Nat), ops[j]? = some o → o.dst = some t → listed.getD j false = true → VR G.T S (get (E l.length).st.env t) (a.tmps.getD t undef)) → Q .normal a W := by
    intro listed a W S p hsz hr h1 hp hpre hx h2 h3 h4 h5 h6 h7
    have hheap : (E l.length).st.heap = (E p).st.heap := ht.same hk hp (Nat.le_refl _) (fun j x h8 h9 hx2 hk2 => by
      have := (hpre j x hx2 hk2).1 (ready_ex listed hsz hr j (by omega))
      omega)
    refine hQ S a W hx h1 ⟨fun t ht' => ?_⟩ (by rw [hheap]; exact h2) h3 h4 h5
    have ht' : t < nt := by simpa [inT] using ht'
    by_cases hex : ∃ (j : Nat) (o : Oper), ops[j]? = some o ∧ o.dst = some t
    · obtain ⟨j, o, ho, hdo⟩ := hex
      exact h7 j o t ho hdo (ready_ex listed hsz hr j (Array.getElem?_eq_some_iff.1 ho).1)
    · have hno : ∀ (j : Nat) (o : Oper), ops[j]? = some o → o.dst ≠ some t := fun j o ho hdo => hex ⟨j, o, ho, hdo⟩
      rw [stay t 0 l.length (Nat.zero_le _) (Nat.le_refl _) (fun j o _ _ ho => hno j o ho)]
      exact h6 t ht' (fun j o ho hdo => absurd hdo (hno j o ho))
  intro fuel
  induction fuel with
  | zero =>
    intro listed a W S p hsz hun h1 hp hpre hx h2 h3 h4 h5 hcl h6 h7 h8r
    have hr : Region.ready .any ops listed = [] := by
      cases hrr : Region.ready .any ops listed with
      | nil => rfl
      | cons i l =>
        have hmem : i ∈ Region.ready .any ops listed := by rw [hrr]; simp
        obtain ⟨h8, o, ho, _⟩ := mem_ready.1 hmem
        have hil : i < listed.size := by rw [hsz]; exact (Array.getElem?_eq_some_iff.1 ho).1
        have hif : listed[i]? = some false := by simp [hil] at h8 ⊢; exact h8
        have := unlisted_set hif
        omega
    exact ⟨hr, fin listed a W S p hsz hr h1 hp hpre hx h2 h3 h4 h5 h6 h7⟩
  | succ fuel ih =>
    intro listed a W S p hsz hun h1 hp hpre hx h2 h3 h4 h5 hcl h6 h7 h8r
    refine ⟨fun hr => fin listed a W S p hsz hr h1 hp hpre hx h2 h3 h4 h5 h6 h7, fun i hmem => ?_⟩
    obtain ⟨h8, o, ho, hdeps⟩ := mem_ready.1 hmem
    have hio := (Array.getElem?_eq_some_iff.1 ho).1
    have hil : i < listed.size := by omega
    have hif : listed[i]? = some false := by simp [hil] at h8 ⊢; exact h8
    have hif' : listed.getD i false = false := by simp [hif]
    have hunl := unlisted_set hif
    obtain ⟨x, hos, hco⟩ := hget' i o ho
    obtain ⟨hop, hdst, hdlt⟩ := cOper_op hco
    obtain ⟨_, hspec⟩ := drawOk_spec hd ho
    have hstep := (runOpE_cases (hk i x hos) (ht.step i x hos)).2
    have hilen : i < l.length := by omega
    have hancL : ∀ j, Anc ops j i → listed.getD j false = true := fun j ⟨_, hj⟩ => anc_listed hcl ho hdeps hj
    have hancN : ∀ j, Anc ops i j → listed.getD j false = false := fun j ⟨_, hj⟩ => by
      cases hb : listed.getD j false with
      | false => rfl
      | true =>
        cases hoj : ops[j]? with
        | none =>
          exfalso
          have : ∀ f, anc ops f i j = true → False := fun f hf => by cases f <;> simp [anc, hoj] at hf
          exact this _ hj
        | some q => rw [anc_listed hcl hoj (hcl j q hb hoj) hj] at hif'; cases hif'
    have hER : ER G.T S (okAt nt ops o) (E i).st.env a.tmps := by
      refine ⟨fun t ht' => ?_⟩
      simp only [okAt, Bool.and_eq_true, decide_eq_true_eq, List.contains_iff_mem] at ht'
      by_cases hex : ∃ (j : Nat) (p : Oper), ops[j]? = some p ∧ p.dst = some t
      · obtain ⟨j, q, hp', hdp⟩ := hex
        have huniq : ∀ (k : Nat) (q : Oper), ops[k]? = some q → q.dst = some t → k = j := fun k q' hq hdq => by
          rcases ((drawOk_spec hd hq).2 j q t hp' hdp).1 with h9 | h9
          · exact h9
          · exact absurd hdq h9
        rcases (hspec j q t hp' hdp).2 with h9 | ⟨h9, h10⟩ | ⟨h9, h10⟩
        · exact absurd ht'.2 h9
        · obtain ⟨ed, hed, hb, hon⟩ := waits_iff.1 h10
          have hjl : listed.getD j false = true := by rw [← hon]; exact hdeps ed hed hb
          have := h7 j q t hp' hdp hjl
          rw [stay t (j + 1) l.length (by omega) (Nat.le_refl _) (fun k q h11 h12 hq hdq => by have := huniq k q hq hdq; omega)] at this
          rw [stay t (j + 1) i (by omega) (by omega) (fun k q h11 h12 hq hdq => by have := huniq k q hq hdq; omega)]
          exact this
        · obtain ⟨ed, hed, hb, hon⟩ := waits_iff.1 h10
          have hjl : listed.getD j false = false := by
            cases hb2 : listed.getD j false with
            | false => rfl
            | true =>
              have := hcl j q hb2 hp' ed hed hb
              rw [hon, hif'] at this; cases this
          have := h6 t ht'.1 (fun k q hq hdq => by rw [huniq k q hq hdq]; exact hjl)
          rw [stay t 0 i (Nat.zero_le _) (by omega) (fun k q h11 h12 hq hdq => by have := huniq k q hq hdq; omega)]
          exact this
      · have hno : ∀ (j : Nat) (p : Oper), ops[j]? = some p → p.dst ≠ some t := fun j p hp hdp => hex ⟨j, p, hp, hdp⟩
        rw [stay t 0 i (Nat.zero_le _) (by omega) (fun k q _ _ hq => hno k q hq)]
        exact h6 t ht'.1 (fun j p hp hdp => absurd hdp (hno j p hp))
    have h8s : ∀ S', Ext S S' → (∀ (j : Nat) (x : IO4) (zs : List Value), l[j]? = some x → zsE x = some zs → (listed.setIfInBounds i true).getD j false = false → S'.ok ((E 0).n0 + x.2.2.1) = false ∧ (E 0).n0 + x.2.2.1 < S'.n) := by
      intro S' hxx j y zs hy hz hlj
      have hji : i ≠ j := fun e => by
        subst e
        rw [Array.getD_eq_getD_getElem?, Array.getElem?_setIfInBounds_self_of_lt hil] at hlj
        simp at hlj
      rw [getD_set_ne false hji] at hlj
      obtain ⟨g1, g2⟩ := h8r j y zs hy hz hlj
      refine ⟨?_, Nat.lt_of_lt_of_le g2 hxx.n⟩
      cases hb : S'.ok ((E 0).n0 + y.2.2.1) with
      | false => rfl
      | true => rw [hxx.back _ g2 hb] at g1; cases g1
    have next0 : ∀ v' W' S' p', Ext0 S S' → Ext S0 S' → (∀ (j : Nat) (x : IO4) (zs : List Value), l[j]? = some x → zsE x = some zs → (listed.setIfInBounds i true).getD j false = false → S'.ok ((E 0).n0 + x.2.2.1) = false ∧ (E 0).n0 + x.2.2.1 < S'.n) → p' ≤ l.length → (∀ (j : Nat) (x : IO4), l[j]? = some x → x.2.1 = 2 → ((listed.setIfInBounds i true).getD j false = true ↔ j < p')) → Below base W W' → HR G.T S' base (E p').st.heap W' →
        (∀ d, o.dst = some d → VR G.T S' (get (E (i + 1)).st.env d) v') → wpAny G.P .any ops Q fuel (listed.setIfInBounds i true) (a.put o.dst v') W' := by
      intro v' W' S' p' hxx hxs h8' hp' hpre' hb hh hv
      refine ih _ _ W' S' p' (by simp [hsz]) (by omega) (by rw [put_size]; exact h1) hp' hpre' hxs hh (h3.below hb) (by rw [put_defs]; exact h4) (h5.trans hb) ?_ ?_ ?_ h8'
      · intro j p hj hp ed hed hbd
        by_cases hji : i = j
        · subst hji
          rw [ho] at hp; injection hp with hp; subst hp
          exact getD_set_true (hdeps ed hed hbd)
        · rw [getD_set_ne false hji] at hj
          exact getD_set_true (hcl j p hj hp ed hed hbd)
      · intro t ht' hno
        have hdt : o.dst ≠ some t := fun hdo => by
          have := hno i o ho hdo
          rw [Array.getD_eq_getD_getElem?, Array.getElem?_setIfInBounds_self_of_lt hil] at this
          simp at this
        have hold := (h6 t ht' (fun j p hp hdp => by
          by_cases hji : i = j
          · rw [← hji]; exact hif'
          · have := hno j p hp hdp
            rwa [getD_set_ne false hji] at this)).mono0 hxx
        cases hdo : o.dst with
        | none => exact hold
        | some d =>
          have hne : d ≠ t := fun e => hdt (by rw [hdo, e])
          simp [Act.put, Array.getElem?_setIfInBounds_ne hne] at hold ⊢; exact hold
      · intro j p t hp hdp hj
        by_cases hji : i = j
        · subst hji
          rw [ho] at hp; injection hp with hp; subst hp
          have htl := hdlt t hdp
          rw [stay t (i + 1) l.length (by omega) (Nat.le_refl _) (fun k q h11 h12 hq hdq => by
            rcases ((drawOk_spec hd hq).2 i o t ho hdp).1 with h9 | h9
            · omega
            · exact h9 hdq)]
          have := hv t hdp
          rw [hdp]
          simp [Act.put, h1, htl]; exact this
        · rw [getD_set_ne false hji] at hj
          have hold := (h7 j p t hp hdp hj).mono0 hxx
          have hdt : o.dst ≠ some t := fun hdo => by
            rcases (hspec j p t hp hdp).1 with h9 | h9
            · exact hji h9
            · exact h9 hdo
          cases hdo : o.dst with
          | none => exact hold
          | some d =>
            have hne : d ≠ t := fun e => hdt (by rw [hdo, e])
            simp [Act.put, Array.getElem?_setIfInBounds_ne hne] at hold ⊢; exact hold
    have next : ∀ v' W' S' p', Ext S S' → p' ≤ l.length → (∀ (j : Nat) (x : IO4), l[j]? = some x → x.2.1 = 2 → ((listed.setIfInBounds i true).getD j false = true ↔ j < p')) → Below base W W' → HR G.T S' base (E p').st.heap W' →
        (∀ d, o.dst = some d → VR G.T S' (get (E (i + 1)).st.env d) v') → wpAny G.P .any ops Q fuel (listed.setIfInBounds i true) (a.put o.dst v') W' :=
      fun v' W' S' p' hxx => next0 v' W' S' p' hxx.ext0 (hx.trans hxx) (h8s S' hxx)
    -- the listed ones with effects, behind this one
    have preQ : x.2.1 ≠ 2 → ∀ (j : Nat) (y : IO4), l[j]? = some y → y.2.1 = 2 → ((listed.setIfInBounds i true).getD j false = true ↔ j < p) := by
      intro hn j y hy hy2
      have hji : i ≠ j := fun e => by subst e; rw [hos] at hy; injection hy with hy; subst hy; exact hn hy2
      rw [getD_set_ne false hji]
      exact hpre j y hy hy2
    have effs : x.2.1 = 2 → p ≤ i ∧ (E i).st.heap = (E p).st.heap ∧ ∀ (j : Nat) (y : IO4), l[j]? = some y → y.2.1 = 2 → ((listed.setIfInBounds i true).getD j false = true ↔ j < i + 1) := by
      intro h2x
      have hpi : p ≤ i := by
        rcases Nat.lt_or_ge i p with h | h
        · have := (hpre i x hos h2x).2 h
          rw [hif'] at this; cases this
        · exact h
      have hbet : ∀ (j : Nat) (y : IO4), l[j]? = some y → y.2.1 = 2 → j < i → j < p := by
        intro j y hy hy2 hji
        rcases (hsp i j x y hos hy hy2).2.1 h2x with h | h
        · omega
        · exact (hpre j y hy hy2).1 (hancL j h)
      refine ⟨hpi, ht.same hk hpi (by omega) (fun j y h9 h10 hy hy2 => by have := hbet j y hy hy2 h10; omega), fun j y hy hy2 => ?_⟩
      by_cases hji : i = j
      · subst hji
        rw [Array.getD_eq_getD_getElem?, Array.getElem?_setIfInBounds_self_of_lt hil]
        simp
      · rw [getD_set_ne false hji, hpre j y hy hy2]
        constructor
        · intro h; omega
        · intro h; exact hbet j y hy hy2 (by omega)
    unfold wpOp
    simp only [ho]
    rw [wanted_eq h1 hER hco]
    have gset : ∀ (v : Value) (d : Nat), o.dst = some d → get (setO (E i).st.env x.1.dst v) d = v := fun v d hdo => by rw [hdst, hdo]; exact get_set_same _ _ _
    rcases hstep with ⟨hw, hzn, v, ef, hiop, hst, hcase⟩ | ⟨hw, hzn, hst, hldd, hcase⟩ | ⟨zs, hzs, hst, hhi, hldd⟩
    · rw [hw]
      simp only [↓reduceIte]
      rcases hcase with ⟨hk0, hpu, _⟩ | ⟨hk1, hlo, _, _, hmemld⟩ | ⟨hk2, _⟩
      · obtain ⟨rfl, hiop'⟩ := iop_pure (h' := (E p).st.heap) hpu hiop
        refine .inl (op_sound hcall hop hER h2 h3 hiop' fun v' W' hA => ?_)
        obtain ⟨S', hxx, hn, hv, hh, hb⟩ := hA
        exact next v' W' S' p hxx hp (preQ (by omega)) hb hh (fun d hdo => by rw [hst]; simp only [St.eff]; rw [gset v d hdo]; exact hv)
      · have hblk : ∀ b, loadBlk (E i).st.env x.1.op = some b → (E p).st.heap[b]? = (E i).st.heap[b]? ∨ (E i).st.heap[b]? = none := by
          intro b hb
          have hin := ldmono (i + 1) (by omega) _ (hmemld b hb)
          have hldk := List.all_eq_true.1 hld _ hin
          simp only [ldOk, List.all_eq_true, Bool.or_eq_true, decide_eq_true_eq] at hldk
          have cond : ∀ (j : Nat) (y : IO4), l[j]? = some y → y.2.1 = 2 → x.2.2.1 ≤ rkE l j → rkE l j < x.2.2.2 → ∃ n w, (E l.length).hist[rkE l j]? = some (n, w) ∧ b ∉ w := by
            intro j y hy hy2 hlo' hhi'
            rcases hldk _ (List.mem_range.2 hhi') with h | h
            · omega
            · split at h
              · rename_i n w hnw
                simp only [Bool.not_eq_true', List.contains_eq_mem, decide_eq_false_iff_not] at h
                exact ⟨n, w, hnw, h⟩
              · rename_i hnone; exact absurd hnone (hist_some j y hy hy2)
          rcases Nat.le_total p i with hpi | hip
          · have hbp : b < (E p).st.heap.length := by
              obtain ⟨x', y', hx', hy'⟩ := load_opd hop hlo
              have hv := opd_sound hER hx'
              generalize a.eval x' = w at hv
              rw [h2.len]
              rcases hy' _ _ hb with ⟨q, hq, rfl⟩ | ⟨q, _, _, hq, rfl⟩
              · rw [hq] at hv; cases hv with | ptr b o h => exact h.1
              · rw [hq] at hv; cases hv with | slice b o p l c c' h _ _ _ _ => exact h.1
            refine .inl (ht.blk hfr hk hh0 hbp hpi (by omega) (fun j y g1 g2 hy hy2 => ?_)).symm
            obtain ⟨c1, c2⟩ := (hsp i j x y hos hy hy2).1 hk1
            refine cond j y hy hy2 ?_ ?_
            · rcases c1 with h | h
              · exact h
              · have := (hpre j y hy hy2).1 (hancL j h); omega
            · rcases c2 with h | h
              · exact h
              · have := anc_lt hd h.choose_spec; omega
          · rcases Nat.lt_or_ge b (E i).st.heap.length with hbi | hbi
            case inr => exact .inr (List.getElem?_eq_none hbi)
            refine .inl (ht.blk hfr hk hh0 hbi hip hp (fun j y g1 g2 hy hy2 => ?_))
            obtain ⟨c1, c2⟩ := (hsp i j x y hos hy hy2).1 hk1
            refine cond j y hy hy2 ?_ ?_
            · rcases c1 with h | h
              · exact h
              · have := anc_lt hd h.choose_spec; omega
            · rcases c2 with h | h
              · exact h
              · have h9 := hancN j h
                rw [(hpre j y hy hy2).2 g2] at h9; cases h9
        obtain ⟨rfl, hiop'⟩ := iop_load (h' := (E p).st.heap) hlo hblk hiop
        refine .inl (op_sound hcall hop hER h2 h3 hiop' fun v' W' hA => ?_)
        obtain ⟨S', hxx, hn, hv, hh, hb⟩ := hA
        exact next v' W' S' p hxx hp (preQ (by omega)) hb hh (fun d hdo => by rw [hst]; simp only [St.eff]; rw [gset v d hdo]; exact hv)
      · obtain ⟨e1, e2, e3⟩ := effs hk2
        refine .inl (op_sound hcall hop hER (by rw [← e2] at h2; exact h2) h3 hiop fun v' W' hA => ?_)
        obtain ⟨S', hxx, hn, hv, hh, hb⟩ := hA
        refine next v' W' S' (i + 1) hxx (by omega) e3 hb ?_ (fun d hdo => ?_)
        · rw [hst]; cases ef <;> exact hh
        · rw [hst]
          have : get ((E i).st.eff x.1.dst v ef).env d = v := by cases ef <;> exact gset v d hdo
          rw [this]; exact hv
    · rw [hw]
      simp only [Bool.false_eq_true, ↓reduceIte]
      rcases hcase with ⟨hn2, _⟩ | ⟨hk2, _⟩
      · exact next undef W S p (.refl _) hp (preQ hn2) (.refl _ _) h2 (fun d hdo => by rw [hst]; rw [gset _ d hdo]; exact VR.undef)
      · obtain ⟨e1, e2, e3⟩ := effs hk2
        exact next undef W S (i + 1) (.refl _) (by omega) e3 (.refl _ _) (by rw [hst]; rw [← e2] at h2; exact h2) (fun d hdo => by rw [hst]; rw [gset _ d hdo]; exact VR.undef)
    · -- a variable that is made at any time
      obtain ⟨hk3, hxop, hxg⟩ := zsE_kind hzs
      obtain ⟨g1, g2⟩ := h8r i x zs hos hzs hif'
      have hog := guard_none hco hxg
      rw [hxop] at hop
      obtain ⟨ty, hoty, hzero⟩ := alloc_inv hop
      obtain ⟨ti, zv, hti, hz0, rfl, hzsz, hzall, hzrun⟩ := zero_run ty hzero
      have hrank := (hkk i x hos).2 _ hzs
      have hpe := hpre0 x.2.2.1 _ (by rw [hrank]; exact preE_at hos hzs)
      have hn0 : (E i).n0 = (E 0).n0 := ht.n0 hk i (by omega)
      have hin := ldmono (i + 1) (by omega) _ (by rw [hldd]; exact List.mem_cons_self)
      have hldk := List.all_eq_true.1 hld _ hin
      simp only [ldOk, List.all_eq_true, Bool.or_eq_true, decide_eq_true_eq] at hldk
      have hblk : (E p).st.heap[(E 0).n0 + x.2.2.1]? = (E 0).st.heap[(E 0).n0 + x.2.2.1]? := by
        refine ht.blk hfr hk hh0 (List.getElem?_eq_some_iff.1 hpe).1 (Nat.zero_le _) hp (fun j y _ hjp hy hy2 => ?_)
        rcases (hsp i j x y hos hy hy2).2.2 hk3 with h | h
        · rcases hldk _ (List.mem_range.2 h) with h' | h'
          · omega
          · split at h'
            · rename_i n w hnw
              simp only [Bool.not_eq_true', List.contains_eq_mem, decide_eq_false_iff_not] at h'
              rw [hn0] at h'
              exact ⟨n, w, hnw, h'⟩
            · rename_i hnone; exact absurd hnone (hist_some j y hy hy2)
        · have h9 := hancN j h
          rw [(hpre j y hy hy2).2 hjp] at h9; cases h9
      rw [hpe] at hblk
      rw [hxg]
      simp only [wants, ↓reduceIte]
      refine .inl (wp_val (v' := .pointer (some ⟨W.heap.size, 0, none⟩)) (W' := W.alloc (.cells zv.cells ty)) (by simp [hoty, execOp, Instr.alloc, newVar, newRow, hzrun]) ?_)
      have hasg := h2.assign (g := W.heap.size) (p := 0) (room := zv.cells.size) (W' := W.alloc (.cells zv.cells ty)) (cs := zv.cells) (t := ty) hblk g1 h2.bs (by simp) (fun k hk _ => Below.heap_alloc _ _ _ hk) (fun b x hb hok hl => by have := h2.block_lt hb hok hl; omega)
        (heap_alloc_new W _) (by omega) (by simp) (fun j v hv => by
          rw [Nat.zero_add]
          have := lfs_self (T := G.T) (S := S) hzall
          have hlt : j < zv.cells.toList.length := (List.getElem?_eq_some_iff.1 hv).1
          exact ⟨zv.cells.toList[j], by simp, this.2 j v _ hv (List.getElem?_eq_getElem hlt)⟩)
      have hx0 := S.assign_ext g1 ⟨W.heap.size, 0, none⟩ zv.cells.size 0
      refine next0 _ _ _ p hx0 ?_ ?_ hp (preQ (by omega)) ((Below.refl _ _).alloc h2.bs _) hasg (fun d hdo => ?_)
      · refine ⟨hx.n, (hx.ext0.trans hx0).base, (hx.ext0.trans hx0).room, (hx.ext0.trans hx0).esz, (hx.ext0.trans hx0).ok, fun b hb hok => ?_⟩
        have hne : b ≠ (E 0).n0 + x.2.2.1 := by omega
        simp only [Inj.assign, hne, ↓reduceIte] at hok
        exact hx.back b hb hok
      · intro j y ws hy hz hlj
        have hji : i ≠ j := fun e => by
          subst e
          rw [Array.getD_eq_getD_getElem?, Array.getElem?_setIfInBounds_self_of_lt hil] at hlj
          simp at hlj
        rw [getD_set_ne false hji] at hlj
        obtain ⟨k1, k2⟩ := h8r j y ws hy hz hlj
        have hne : (E 0).n0 + y.2.2.1 ≠ (E 0).n0 + x.2.2.1 := by
          rw [hrank, (hkk j y hy).2 _ hz]
          rcases Nat.lt_or_gt_of_ne hji with h | h
          · have := preE_ne hos hzs hy hz h; omega
          · have := preE_ne hy hz hos hzs h; omega
        refine ⟨?_, k2⟩
        simp only [Inj.assign, hne, ↓reduceIte]; exact k1
      · rw [hst]
        simp only
        rw [gset _ d hdo, hn0]
        have := VR.ptr (T := G.T) (S := S.assign ((E 0).n0 + x.2.2.1) ⟨W.heap.size, 0, none⟩ zv.cells.size 0) ((E 0).n0 + x.2.2.1) 0 ⟨g2, by simp [Inj.assign]⟩
        simp only [Inj.assign, ↓reduceIte, add_lit] at this
        exact this
end
end Go.Proofs.Cp
