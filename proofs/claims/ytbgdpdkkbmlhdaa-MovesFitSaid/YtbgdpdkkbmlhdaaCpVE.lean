/- A region that draws its order, with effects: the second machine beside the first. No program in sight. -/
import Derived.Test.YtbgdpdkkbmlhdaaCpVCall
set_option linter.unusedSimpArgs false
set_option linter.unusedVariables false
namespace Go.Proofs.Cp
open Go
variable {base : Nat} {S0 : Cx} {h0 : Heap} {H0 : VHeap} {pr : Nat → Prop} {S : Cx} {h : Heap} {H : VHeap}

/-! ### Hidden blocks -/
theorem hg_map_range (n : Nat) (f : Nat → VB) (hf : ∀ i, n ≤ i → f i = ⟨0, 0, false, []⟩) (b : Nat) : hg ((List.range n).map f) b = f b := by
  unfold hg
  rw [gt_getElem?, List.getElem?_map]
  rcases Nat.lt_or_ge b n with h | h
  · rw [List.getElem?_range h]; rfl
  · rw [List.getElem?_eq_none (by simpa using h), hf b h]; rfl
theorem hg_ge (H : VHeap) {b : Nat} (h : H.length ≤ b) : hg H b = ⟨0, 0, false, []⟩ := gt_ge _ _ _ h
theorem hg_keepV (H : VHeap) (ws : List Nat) (b : Nat) : hg (keepV H ws) b = if ws.contains b then hg H b else { hg H b with live := false } := by
  unfold keepV
  rw [hg_map_range _ _ (fun i hi => by rw [hg_ge H hi]; split <;> rfl)]
theorem keepV_len (H : VHeap) (ws : List Nat) : (keepV H ws).length = H.length := by simp [keepV]
theorem hg_mergeV (H : VHeap) (ws : List Nat) (H1 : VHeap) (hl : H.length ≤ H1.length) (b : Nat) : hg (mergeV H ws H1) b = if (hg H b).live && !ws.contains b then hg H b else hg H1 b := by
  unfold mergeV
  rw [hg_map_range _ _ (fun i hi => by rw [hg_ge H (by omega), hg_ge H1 hi]; rfl)]
theorem mergeV_len (H : VHeap) (ws : List Nat) (H1 : VHeap) : (mergeV H ws H1).length = H1.length := by simp [mergeV]

/-! ### What is written -/
structure WP (pr : Nat → Prop) (S : Cx) (h : Heap) (H : VHeap) (ws : List Nat) (p : Nat) : Prop where
  lt : p < h.length
  np : ¬ pr p
  nr : ∀ e xs, h[p]? ≠ some (.cells true e xs)
  im : ∀ b, (hg H b).live = true → S.j b = p → b ∈ ws
theorem WP.of_live (A : Act base S0 h0 H0 pr S h H) {b : Nat} {ws : List Nat} (hl : (hg H b).live = true) (hw : b ∈ ws) : WP pr S h H ws (S.j b) := by
  obtain ⟨_, h2, xs, h3, _⟩ := A.hx.blk b hl
  refine ⟨A.hx.jlt hl, h2, fun e ys hy => by rw [h3] at hy; simp at hy, fun c hc he => ?_⟩
  by_cases hcb : c = b
  · rw [hcb]; exact hw
  · exact absurd he (A.hx.inj c b hc hl hcb)

theorem viop_quiet {vc : VCalls} {sh : Nat → Bool} {nt : Nat} {dst : Option Nat} {op : IOp} {E : List DV} {d : DV} {ef' : VEff} (hp : pureOp op = true ∨ loadOp op = true) (hio : viop vc sh base nt dst op E H = some (d, ef')) : ef' = none := by
  cases op <;> simp only [pureOp, loadOp, Bool.false_eq_true, or_self] at hp <;> simp only [viop] at hio <;> (repeat' split at hio) <;>
    simp only [Option.map_eq_some_iff, Option.bind_eq_some_iff, Option.some.injEq, Prod.mk.injEq, reduceCtorEq] at hio <;>
    first
    | exact hio.2.symm
    | (obtain ⟨_, _, _, hq⟩ := hio; exact hq.symm)
    | (obtain ⟨_, _, _, _, _, hq⟩ := hio; exact hq.symm)
    | (obtain ⟨_, _, hio⟩ := hio; repeat' split at hio <;> simp only [Option.map_eq_some_iff, Option.bind_eq_some_iff, Option.some.injEq, Prod.mk.injEq, reduceCtorEq] at hio <;> exact hio.2.symm)

theorem putL_live {b ver i : Nat} {X : List (List DV)} {H' : VHeap} (hp : putL H b ver i X = some H') : (hg H b).live = true ∧ (hg H b).ver = ver := by
  unfold putL at hp
  split at hp
  · rename_i hc; exact ⟨hc.1, hc.2.1⟩
  · simp at hp

/-- What an operation that is no call writes. -/
theorem viop_w {vc : VCalls} {mc : Calls_} {sh : Nat → Bool} {nt : Nat} {dst : Option Nat} {op : IOp} {e : Env} {E : List DV} {d : DV} {ef' : VEff} {v : Value} {h2 : Heap} {w : List Nat} (A : Act base S0 h0 H0 pr S h H) (hE : ERel S h e E)
    (hnc : ∀ f args frz, op ≠ .call f args frz) (hio : viop vc sh base nt dst op E H = some (d, ef')) (hne : ef' ≠ none) (h1 : iop mc op e h = some (v, some (h2, w))) : ∀ p, p ∈ w → WP pr S h H (wsOf sh op E) p := by
  have mpj : ∀ {v : Value} {b ver i k : Nat}, DR S h v (.mp b ver i k) → (hg H b).live = true → (hg H b).ver = ver → ∀ a, v = .pointer (some a) → a.block = S.j b := by
    intro v b ver i k hr hl hv a ha
    obtain ⟨a', he, _, _, hp⟩ := hr.mp_inv
    rw [ha] at he; simp at he; subst he
    rw [hp (by rw [← A.hx.ver]; exact hv.symm)]
  have msj : ∀ {v : Value} {b ver i l c : Nat}, DR S h v (.ms b ver i l c) → (hg H b).live = true → (hg H b).ver = ver → ∀ a l' c', v = .slice (some a) l' c' → a.block = S.j b := by
    intro v b ver i l c hr hl hv a l' c' ha
    obtain ⟨a', he, _, _, hp⟩ := hr.ms_inv
    rw [ha] at he; simp at he; obtain ⟨he, _, _⟩ := he; subst he
    rw [hp (by rw [← A.hx.ver]; exact hv.symm)]
  have vsl : ∀ {v : Value} {a : Option Addr} {l c : Nat}, DR S h v (.lit (.slice a l c)) → ∀ x l' c', v ≠ .slice (some x) l' c' := by
    intro v a l c hr x l' c' he
    have hi := hr.lit_inv
    rw [he] at hi
    have := hi.2
    rw [← hi.1] at this
    simp [scal] at this
  cases op
  case call f args frz => exact absurd rfl (hnc f args frz)
  case store n a x =>
    simp only [viop] at hio
    simp only [iop] at h1
    have hr := hE.ev a
    split at hio
    · rename_i b ver i k hl
      rw [hl] at hr
      split at hio
      · simp only [Option.map_eq_some_iff, Prod.mk.injEq] at hio
        obtain ⟨H', hput, _, _⟩ := hio
        unfold putE at hput
        split at hput
        · rename_i el hel
          have hll := A.hx.at_ hel
          split at h1
          · rename_i q hq
            split at h1
            · simp only [Option.map_eq_some_iff, Prod.mk.injEq, Option.some.injEq] at h1
              obtain ⟨_, _, _, _, rfl⟩ := h1
              intro p hp
              simp at hp; subst hp
              rw [mpj hr hll.1 (by rw [A.hx.ver]; exact hll.2.1.symm) q hq]
              exact .of_live A hll.1 (by simp [wsOf, hl, refD1])
            · simp at h1
          · simp at h1
        · simp at hput
      · simp at hio
    · simp at hio
  case append esz bytes s x =>
    simp only [viop] at hio
    simp only [iop] at h1
    have hr := hE.ev s
    unfold vappend at hio
    simp only [Option.bind_eq_some_iff] at hio
    obtain ⟨X, hX, hio⟩ := hio
    unfold appendV at h1
    split at h1
    · simp only [Option.bind_eq_some_iff] at h1
      obtain ⟨news, _, h1⟩ := h1
      split at h1
      · split at h1
        · simp at h1
        · split at h1
          · simp only [Option.some.injEq, Prod.mk.injEq] at h1
            obtain ⟨_, _, rfl⟩ := h1; simp
          · simp at h1
      · rename_i sa l c hsv
        have key : ∀ b ver, (hg H b).live = true → (hg H b).ver = ver → (∃ i l' c', vev E s = .ms b ver i l' c') → ∀ p, p ∈ [sa.block] → WP pr S h H (wsOf sh (.append esz bytes s x) E) p := by
          rintro b ver k1 k2 ⟨i, l', c', k3⟩ p hp
          simp at hp; subst hp
          rw [k3] at hr
          rw [msj hr k1 k2 sa l c hsv]
          exact .of_live A k1 (by simp [wsOf, k3, refD1])
        have hw : ∀ q, q ∈ w → q ∈ [sa.block] := by
          split at h1
          · split at h1
            · simp at h1
            · simp only [Option.map_eq_some_iff, Prod.mk.injEq, Option.some.injEq] at h1
              obtain ⟨_, _, _, _, rfl⟩ := h1; exact fun q hq => hq
          · split at h1
            · split at h1
              · simp only [Option.some.injEq, Prod.mk.injEq] at h1
                obtain ⟨_, _, rfl⟩ := h1; exact fun q hq => hq
              · simp at h1
            · simp at h1
        intro p hp
        have hp := hw p hp
        split at hio
        · rename_i hl
          rw [hl] at hr
          exact absurd hsv (vsl hr _ _ _)
        · rename_i b ver i l' c' hl
          split at hio
          · split at hio
            · simp only [Option.some.injEq, Prod.mk.injEq] at hio
              exact absurd hio.2.symm hne
            · split at hio
              · simp only [Option.map_eq_some_iff, Prod.mk.injEq] at hio
                obtain ⟨H', hput, _, _⟩ := hio
                obtain ⟨k1, k2⟩ := putL_live hput
                exact key b ver k1 k2 ⟨_, _, _, hl⟩ p hp
              · simp at hio
          · split at hio
            · simp only [Option.bind_eq_some_iff] at hio
              obtain ⟨L, hpart, _⟩ := hio
              have hll := A.hx.part hpart
              exact key b ver hll.1 (by rw [A.hx.ver]; exact hll.2.1.symm) ⟨_, _, _, hl⟩ p hp
            · simp at hio
        · simp at hio
      · simp at h1
    · simp at h1
  case copy esz s x =>
    simp only [viop] at hio
    simp only [iop] at h1
    have hr := hE.ev s
    unfold vcopy at hio
    simp only [Option.bind_eq_some_iff] at hio
    obtain ⟨X, hX, hio⟩ := hio
    unfold copyV at h1
    split at h1
    · rename_i da dl dc xa xl xc hsv hxv
      split at h1
      · simp at h1
      · split at h1
        · rename_i a b
          simp only [Option.bind_eq_some_iff, Option.map_eq_some_iff, Prod.mk.injEq, Option.some.injEq] at h1
          obtain ⟨_, _, _, _, _, _, rfl⟩ := h1
          intro p hp
          simp at hp; subst hp
          split at hio
          · rename_i hl
            rw [hl] at hr
            exact absurd hsv (vsl hr _ _ _)
          · rename_i b ver i l' c' hl
            split at hio
            · simp only [Option.some.injEq, Prod.mk.injEq] at hio
              exact absurd hio.2.symm hne
            · split at hio
              · simp only [Option.map_eq_some_iff, Prod.mk.injEq] at hio
                obtain ⟨H', hput, _, _⟩ := hio
                obtain ⟨k1, k2⟩ := putL_live hput
                rw [hl] at hr
                rw [msj hr k1 k2 _ _ _ hsv]
                exact .of_live A k1 (by simp [wsOf, hl, refD1])
              · simp at hio
          · simp at hio
        · simp at h1
    · simp at h1
  case clear zs s =>
    simp only [viop] at hio
    simp only [iop] at h1
    have hr := hE.ev s
    unfold vclear at hio
    unfold clearV at h1
    split at h1
    · rename_i da n c hsv
      split at h1
      · simp at h1
      · split at h1
        · rename_i a
          simp only [Option.map_eq_some_iff, Prod.mk.injEq, Option.some.injEq] at h1
          obtain ⟨_, _, _, _, rfl⟩ := h1
          intro p hp
          simp at hp; subst hp
          split at hio
          · rename_i hl
            rw [hl] at hr
            exact absurd hsv (vsl hr _ _ _)
          · rename_i b ver i l' c' hl
            split at hio
            · simp only [Option.some.injEq, Prod.mk.injEq] at hio
              exact absurd hio.2.symm hne
            · split at hio
              · simp only [Option.map_eq_some_iff, Prod.mk.injEq] at hio
                obtain ⟨H', hput, _, _⟩ := hio
                obtain ⟨k1, k2⟩ := putL_live hput
                rw [hl] at hr
                rw [msj hr k1 k2 _ _ _ hsv]
                exact .of_live A k1 (by simp [wsOf, hl, refD1])
              · simp at hio
          · simp at hio
        · simp at h1
    · simp at h1
  all_goals
    simp only [iop] at h1
    repeat' split at h1
    all_goals
      simp only [Option.map_eq_some_iff, Option.some.injEq, Prod.mk.injEq, reduceCtorEq, and_false, false_and, exists_false] at h1
      try (obtain ⟨_, _, rfl⟩ := h1; simp)
      try (obtain ⟨_, _, _, _, rfl⟩ := h1; simp)

/-- A call that may write the blocks alone that its arguments lead to. -/
theorem sharedK_sound {sh : Nat → Bool} {vc : VCalls} {mc : Calls_} (hsim : SimC sh vc mc) (A : Act base S0 h0 H0 pr S h H) {g : Nat} (hg' : sh g = true) {base' : Nat} (hb' : base ≤ base') (hbl : H.length ≤ base') {vs : List Value} {args : List DV} (hargs : DRs S h vs args) {ws : List Nat} {d : DV} {H1 : VHeap} (hc : vc g args (keepV H ws) base' = some (d, H1)) :
    ∃ v h2 w, mc g vs h = some (v, some (h2, w)) ∧ Out base S0 h0 H0 pr S h v (some (h2, w)) d (mergeV H ws H1) ∧ ∀ p, p ∈ w → WP pr S h H ws p := by
  have hkl : ∀ b, (hg (keepV H ws) b).live = true ↔ (hg H b).live = true ∧ b ∈ ws := by
    intro b
    rw [hg_keepV]
    split
    · rename_i hw; simp at hw; simp [hw]
    · rename_i hw; simp at hw; simp [hw]
  have hkv : ∀ b, (hg (keepV H ws) b).ver = (hg H b).ver := by
    intro b
    rw [hg_keepV]; split <;> rfl
  have hkb : ∀ b, b ∈ ws → hg (keepV H ws) b = hg H b := by
    intro b hb
    rw [hg_keepV, if_pos (by simpa using hb)]
  have hprj : ∀ b, pr b → b < h.length ∧ ∀ c, (hg (keepV H ws) c).live = true → b ≠ S.j c := fun b hb => ⟨A.plS b hb, fun c hc he => by subst he; exact (A.hx.blk c ((hkl c).1 hc).1).2.1 hb⟩
  obtain ⟨v, hm, wm, S1, h1, hf, hw, A1, hdr⟩ := hsim g args (keepV H ws) base' d H1 hc S (fun b => b < h.length ∧ ∀ c, (hg (keepV H ws) c).live = true → b ≠ S.j c) h vs
    ⟨by rw [keepV_len]; exact A.hx.n, fun b => by rw [hkv]; exact A.hx.ver b, fun b hb => by
      obtain ⟨q1, q2⟩ := (hkl b).1 hb
      obtain ⟨k1, k2, k3⟩ := A.hx.blk b q1
      rw [hkb b q2]
      exact ⟨k1, fun hp => hp.2 b hb rfl, k3⟩, fun b c hb hc' => A.hx.inj b c ((hkl b).1 hb).1 ((hkl c).1 hc').1⟩
    (fun b hb => hprj b (A.spS b hb)) (fun b hb => hb.1) hargs
  rw [if_pos hg'] at h1
  have hlenH : H.length ≤ H1.length := by
    rw [A.hx.n, A1.hx.n]; exact A1.ce.n
  have hmg := hg_mergeV H ws H1 hlenH
  -- what was hidden is as it was
  have hid : ∀ b, (hg H b).live = true → b ∉ ws → S1.ver b = S.ver b ∧ S1.j b = S.j b ∧ S1.e b = S.e b ∧ hm[S.j b]? = h[S.j b]? ∧ ∀ c, (hg H1 c).live = true → S1.j c ≠ S.j b := by
    intro b hl hn
    have hnk : (hg (keepV H ws) b).live = false := by
      cases hh : (hg (keepV H ws) b).live with
      | false => rfl
      | true => exact absurd ((hkl b).1 hh).2 hn
    have hb1 : b < base' := by
      have h1 := A.hx.lt hl
      rw [← A.hx.n] at h1
      omega
    have h2 := A1.od b hb1 hnk
    have h3 := A1.ce.same b (A.hx.lt hl) h2
    have hp : S.j b < h.length ∧ ∀ c, (hg (keepV H ws) c).live = true → S.j b ≠ S.j c := ⟨A.hx.jlt hl, fun c hc' he => by
      obtain ⟨q1, q2⟩ := (hkl c).1 hc'
      exact A.hx.inj b c hl q1 (fun e => by subst e; exact hn q2) he⟩
    refine ⟨h2, h3.1, h3.2, hf.get _ hp.1 (fun hm => hw _ hm hp), fun c hc' he => ?_⟩
    exact (A1.hx.blk c hc').2.1 (by rw [he]; exact hp)
  have hrest : ∀ b, (hg (mergeV H ws H1) b).live = true → ((hg H b).live = true ∧ b ∉ ws ∧ hg (mergeV H ws H1) b = hg H b) ∨ ((hg H1 b).live = true ∧ hg (mergeV H ws H1) b = hg H1 b) := by
    intro b hl
    rw [hmg] at hl ⊢
    split at hl
    · rename_i hc'
      rw [if_pos hc']
      simp at hc'
      exact .inl ⟨hc'.1, hc'.2, rfl⟩
    · rename_i hc'
      rw [if_neg hc']
      exact .inr ⟨hl, rfl⟩
  refine ⟨v, hm, _, h1, ⟨⟨S1, ⟨⟨by rw [mergeV_len]; exact A1.hx.n, fun b => ?_, fun b hb => ?_, fun b c hb hc' hne => ?_⟩, A.ce.trans A1.ce, A.gr.trans A.ce A1.gr, A1.se.trans A.se, A.sp, A.pl, A.bn, fun b hb hl => ?_, fun b hb hl => ?_, fun b hb hl => ?_⟩, A1.ce, A1.gr, hdr⟩, fun h2 w he b hb hpr => ?_⟩, fun p hp => ?_⟩
  · rw [hmg]
    split
    · rename_i hc'
      simp at hc'
      rw [(hid b hc'.1 hc'.2).1]; exact A.hx.ver b
    · exact A1.hx.ver b
  · rcases hrest b hb with ⟨q1, q2, q3⟩ | ⟨q1, q3⟩
    · obtain ⟨i1, i2, i3, i4, _⟩ := hid b q1 q2
      obtain ⟨k1, k2, xs, k3, k4⟩ := A.hx.blk b q1
      rw [q3, i2, i3]
      exact ⟨k1, k2, xs, by show hm[S.j b]? = _; rw [i4]; exact k3, k4.mono A1.ce A1.gr⟩
    · obtain ⟨k1, k2, k3⟩ := A1.hx.blk b q1
      rw [q3]
      exact ⟨k1, fun hp => k2 (hprj _ hp), k3⟩
  · rcases hrest b hb with ⟨q1, q2, _⟩ | ⟨q1, _⟩ <;> rcases hrest c hc' with ⟨r1, r2, _⟩ | ⟨r1, _⟩
    · rw [(hid b q1 q2).2.1, (hid c r1 r2).2.1]; exact A.hx.inj b c q1 r1 hne
    · rw [(hid b q1 q2).2.1]; exact ((hid b q1 q2).2.2.2.2 c r1).symm
    · rw [(hid c r1 r2).2.1]; exact (hid c r1 r2).2.2.2.2 b q1
    · exact A1.hx.inj b c q1 r1 hne
  · rcases hrest b hl with ⟨q1, q2, _⟩ | ⟨q1, _⟩
    · rw [(hid b q1 q2).2.1]; exact A.on b hb q1
    · rcases Nat.lt_or_ge b base' with hlt | hge
      · obtain ⟨k1, k2⟩ := A1.ob b hlt q1
        have k1 := ((hkl b).1 k1).1
        rw [(A1.ce.same b (A.hx.lt k1) k2).1]
        exact A.on b hb k1
      · exact Nat.le_trans A.gr.len (A1.on b hge q1)
  · rcases hrest b hl with ⟨q1, q2, _⟩ | ⟨q1, _⟩
    · obtain ⟨k3, k4⟩ := A.ob b hb q1
      exact ⟨k3, (hid b q1 q2).1.trans k4⟩
    · obtain ⟨k1, k2⟩ := A1.ob b (by omega) q1
      have k1 := ((hkl b).1 k1).1
      obtain ⟨k3, k4⟩ := A.ob b hb k1
      exact ⟨k3, k2.trans k4⟩
  · have hnl : (hg (keepV H ws) b).live = false := by
      cases hh : (hg (keepV H ws) b).live with
      | false => rfl
      | true => rw [(A.ob b hb ((hkl b).1 hh).1).1] at hl; cases hl
    exact (A1.od b (by omega) hnl).trans (A.od b hb hl)
  · simp at he; obtain ⟨_, rfl⟩ := he
    exact hw b (List.mem_filter.1 hb).1 (hprj b hpr)
  · obtain ⟨p1, p2⟩ := List.mem_filter.1 hp
    simp at p2
    have hnp := hw p p1
    have : ∃ c, (hg (keepV H ws) c).live = true ∧ p = S.j c := by
      apply Classical.byContradiction
      intro hno
      exact hnp ⟨p2, fun c hc' he => hno ⟨c, hc', he⟩⟩
    obtain ⟨c, hc', rfl⟩ := this
    obtain ⟨q1, q2⟩ := (hkl c).1 hc'
    exact .of_live A q1 q2

/-! ### The run of a region -/
/-- A moment at which an operation with effects began. -/
structure Gs where
  S : Cx
  h : Heap
  H : VHeap
  ws : List Nat
  w : List Nat
def LdI (gs : List Gs) (ld : List (Nat × Nat × Nat × Nat)) (S : Cx) (h : Heap) (x : Nat × Nat × Nat) : Prop :=
  x.2.2 ≤ x.2.1 ∨ (Stb S h x.1 ∧ ∀ g, g ∈ gs → x.1 ∉ g.w) ∨
  ∃ b ver, (b, ver, x.2.1, x.2.2) ∈ ld ∧ b < S.n ∧ ver ≤ S.ver b ∧ (S.ver b = ver → S.j b = x.1) ∧ ∀ g, g ∈ gs → (hg g.H b).live = true → (hg g.H b).ver = ver → b ∉ g.ws → x.1 ∉ g.w
theorem LdI.mono {gs : List Gs} {l l' : List (Nat × Nat × Nat × Nat)} {S S' : Cx} {h h' : Heap} {x : Nat × Nat × Nat} (hl : ∀ y, y ∈ l → y ∈ l') (hx : CxE S S') (hg : Grw S h h') (hi : LdI gs l S h x) : LdI gs l' S' h' x := by
  rcases hi with hi | ⟨h1, h2⟩ | ⟨b, ver, h1, h2, h3, h4, h5⟩
  · exact .inl hi
  · exact .inr (.inl ⟨(hg.stb hx h1).1, h2⟩)
  · refine .inr (.inr ⟨b, ver, hl _ h1, Nat.lt_of_lt_of_le h2 hx.n, Nat.le_trans h3 (hx.ver b h2), fun he => ?_, h5⟩)
    have := hx.ver b h2
    have e1 : S.ver b = ver := by omega
    rw [(hx.same b h2 (by omega)).1]; exact h4 e1
theorem LdI.eff {gs : List Gs} {l : List (Nat × Nat × Nat × Nat)} {x : Nat × Nat × Nat} (A : Act base S0 h0 H0 pr S h H) {ws w : List Nat} (hw : ∀ p, p ∈ w → WP pr S h H ws p) (hi : LdI gs l S h x) : LdI (gs ++ [⟨S, h, H, ws, w⟩]) l S h x := by
  rcases hi with hi | ⟨h1, h2⟩ | ⟨b, ver, h1, h2, h3, h4, h5⟩
  · exact .inl hi
  · refine .inr (.inl ⟨h1, fun g hg' hm => ?_⟩)
    rcases List.mem_append.1 hg' with hg' | hg'
    · exact h2 g hg' hm
    · simp at hg'; subst hg'
      have := hw _ hm
      rcases h1 with h1 | ⟨e, xs, h1⟩
      · exact this.np (A.spS _ h1)
      · exact this.nr e xs h1
  · refine .inr (.inr ⟨b, ver, h1, h2, h3, h4, fun g hg' hl hv hn hm => ?_⟩)
    rcases List.mem_append.1 hg' with hg' | hg'
    · exact h5 g hg' hl hv hn hm
    · simp at hg'; subst hg'
      simp only at hl hv hn hm
      exact hn ((hw _ hm).im b hl (h4 (by rw [← A.hx.ver]; exact hv)))
/-- What was noted at the moments is so. -/
structure GsOk (base : Nat) (S0 : Cx) (h0 : Heap) (H0 : VHeap) (pr : Nat → Prop) (Sr : Cx) (S : Cx) (h : Heap) (g : Gs) : Prop where
  act : Act base S0 h0 H0 pr g.S g.h g.H
  r : CxE Sr g.S
  ce : CxE g.S S
  gr : Grw g.S g.h h
  w : ∀ p, p ∈ g.w → WP pr g.S g.h g.H g.ws p
variable {Sr : Cx} {gs : List Gs}
theorem GsOk.mono {S' : Cx} {h' : Heap} {g : Gs} (hx : CxE S S') (hg : Grw S h h') (k : GsOk base S0 h0 H0 pr Sr S h g) : GsOk base S0 h0 H0 pr Sr S' h' g :=
  ⟨k.act, k.r, k.ce.trans hx, k.gr.trans k.ce hg, k.w⟩
theorem LdI.stb (A : Act base S0 h0 H0 pr S h H) (hgs : ∀ g, g ∈ gs → GsOk base S0 h0 H0 pr Sr S h g) {p lo hi : Nat} (hp : Stb S h p) {l : List (Nat × Nat × Nat × Nat)} : LdI gs l S h (p, lo, hi) := by
  refine .inr (.inl ⟨hp, fun g hg' hm => ?_⟩)
  have k := hgs g hg'
  have hw := k.w _ hm
  rcases hp with hp | ⟨e, xs, hp⟩
  · refine hw.np (k.act.spS _ ?_)
    rw [k.act.se, ← A.se]; exact hp
  · exact hw.nr e xs (k.gr.rob _ _ _ hw.lt hp)
theorem LdI.mp (A : Act base S0 h0 H0 pr S h H) (hgs : ∀ g, g ∈ gs → GsOk base S0 h0 H0 pr Sr S h g) {b ver lo hi : Nat} (hl : (hg H b).live = true) (hv : (hg H b).ver = ver) {l : List (Nat × Nat × Nat × Nat)} : LdI gs (vldAdd lo hi (some (b, ver)) l) S h (S.j b, lo, hi) := by
  unfold vldAdd
  simp only
  split
  · rename_i hlt
    refine .inr (.inr ⟨b, ver, by simp, A.hx.lt hl, by rw [← A.hx.ver]; omega, fun _ => rfl, fun g hg' gl gv gn hm => ?_⟩)
    have k := hgs g hg'
    have hlt' := k.act.hx.lt gl
    have hsame := k.ce.same b hlt' (by rw [← A.hx.ver, ← k.act.hx.ver, hv, gv])
    have hw := k.w _ hm
    exact gn (hw.im b gl hsame.1.symm)
  · rename_i hlt
    exact .inl (by simpa using hlt)
theorem vldAdd_sub {lo hi : Nat} {o : Option (Nat × Nat)} {l : List (Nat × Nat × Nat × Nat)} : ∀ y, y ∈ l → y ∈ vldAdd lo hi o l := by
  intro y hy
  unfold vldAdd
  split
  · split
    · exact List.mem_cons_of_mem _ hy
    · exact hy
  · exact hy

/-- The variables that are made at the region's begin. -/
structure PreI (base n0 : Nat) (Sr : Cx) (Hr : VHeap) (x : IOper × Nat × Nat × Nat) (d : Nat) : Prop where
  lt : base + d < Sr.n
  j : Sr.j (base + d) = n0 + x.2.2.1
  ver : (hg Hr (base + d)).ver = Sr.ver (base + d)
theorem vpre_sound {n0 : Nat} : ∀ {os : List (IOper × Nat × Nat × Nat)} {k : Nat} {ds : List Nat} {S : Cx} {h : Heap} {H Hr : VHeap}, Act base S0 h0 H0 pr S h H → h.length = n0 + k → vpre base k ds os H = some Hr →
    ∃ Sr, Act base S0 h0 H0 pr Sr (h ++ (preE os).map fun zs => Blk.cells false 0 zs) Hr ∧ CxE S Sr ∧ Grw S h (h ++ (preE os).map fun zs => Blk.cells false 0 zs) ∧
      (∀ d, d ∈ ds → Sr.j (base + d) = S.j (base + d) ∧ Sr.ver (base + d) = S.ver (base + d)) ∧
      ∀ x zs d, x ∈ os → zsE x = some zs → x.1.dst = some d → PreI base n0 Sr Hr x d
  | [], k, ds, S, h, H, Hr, A, hn, hv => by
    simp [vpre] at hv; subst hv
    refine ⟨S, by simpa [preE] using A, .refl _, by simpa [preE] using Grw.refl S h, fun d _ => ⟨rfl, rfl⟩, by simp⟩
  | o :: os, k, ds, S, h, H, Hr, A, hn, hv => by
    simp only [vpre] at hv
    split at hv
    · rename_i zs hz
      split at hv
      · rename_i d hd
        split at hv
        · rename_i hc
          have hbr : BR S h 0 [zs.map dvLeaf] zs := ⟨.inr ⟨rfl, _, rfl⟩, by simpa using dvLeafs_rel zs⟩
          have A1 := A.push (Nat.le_add_right base d) hbr
          have hg1 : Grw S h (h ++ [.cells false 0 zs]) := .push (fun b hb => A.plS b (A.spS b hb)) _
          have hc1 := CxE.push S (base + d) h.length 0
          obtain ⟨Sr, B, hc2, hg2, hds, hall⟩ := vpre_sound (n0 := n0) A1 (by simp; omega) hv
          have he : h ++ (preE (o :: os)).map (fun zs => Blk.cells false 0 zs) = (h ++ [.cells false 0 zs]) ++ (preE os).map fun zs => Blk.cells false 0 zs := by
            simp [preE, hz]
          rw [he]
          have hdd := hds d (by simp)
          simp only [Cx.push, upd, ↓reduceIte] at hdd
          refine ⟨Sr, B, hc1.trans hc2, hg1.trans hc1 hg2, fun d' hd' => ?_, fun x zs' d' hx hzx hdx => ?_⟩
          · have hne : d ≠ d' := by
              intro e; subst e
              have := hc.2
              simp at this; exact this hd'
            have := hds d' (by simp [hd'])
            simp only [Cx.push, upd, show ¬ (base + d = base + d') by omega, ↓reduceIte] at this
            exact this
          · rcases List.mem_cons.1 hx with rfl | hx
            · rw [hd] at hdx; simp at hdx; subst hdx
              refine ⟨Nat.lt_of_lt_of_le (by simp [Cx.push]; omega) hc2.n, ?_, B.hx.ver _⟩
              rw [hdd.1, hc.1, hn]
            · exact hall x zs' d' hx hzx hdx
        · simp at hv
      · simp at hv
    · rename_i hz
      obtain ⟨Sr, B, hc2, hg2, hds, hall⟩ := vpre_sound (n0 := n0) A hn hv
      have he : preE (o :: os) = preE os := by simp [preE, hz]
      rw [he]
      refine ⟨Sr, B, hc2, hg2, hds, fun x zs' d' hx hzx hdx => ?_⟩
      rcases List.mem_cons.1 hx with rfl | hx
      · rw [hz] at hzx; cases hzx
      · exact hall x zs' d' hx hzx hdx

theorem vwants_rel {S : Cx} {h : Heap} {e : Env} {E : List DV} (hE : ERel S h e E) {g : Option (Nat × Bool)} {b : Bool} (hw : vwants E g = some b) : wants e g = b := by
  unfold vwants at hw
  split at hw
  · simp at hw; subst hw; rfl
  · rename_i t c
    split at hw
    · rename_i c' hc
      simp at hw; subst hw
      have := hE t; rw [hc] at this
      simp only [wants, this.bool_inv]
    · rename_i l hc
      simp at hw; subst hw
      have := hE t; rw [hc] at this
      obtain ⟨cs, hv, _⟩ := this.tup_inv
      simp only [wants, hv]
    · simp at hw
/-- Both runs side by side. -/
structure EI (base : Nat) (S0 : Cx) (h0 : Heap) (H0 : VHeap) (pr : Nat → Prop) (n0 : Nat) (Sr : Cx) (Hr : VHeap) (s : ESt) (t : VE) (gs : List Gs) (S : Cx) : Prop where
  act : Act base S0 h0 H0 pr S s.st.heap t.st.H
  env : ERel S s.st.heap s.st.env t.st.E
  wrs : ∀ b, b ∈ s.st.wrs → ¬ pr b
  r : CxE Sr S
  h1 : s.hist = gs.map fun g => (g.h.length, g.w)
  hV : t.hist = gs.map fun g => (g.H, g.ws)
  gso : ∀ g, g ∈ gs → GsOk base S0 h0 H0 pr Sr S s.st.heap g
  ld : ∀ x, x ∈ s.ld → LdI gs t.ld S s.st.heap x
  n0 : s.n0 = n0
  H0 : t.H0 = Hr
section
variable {nt : Nat} {vc : VCalls} {mc : Calls_} {sh : Nat → Bool} (hsim : SimC sh vc mc) {n0 : Nat} {Hr : VHeap}
include hsim
theorem viopE_sound {dst : Option Nat} {op : IOp} {e : Env} {E : List DV} {d : DV} {ef' : VEff} (A : Act base S0 h0 H0 pr S h H) (hE : ERel S h e E) (hio : viopE vc sh base nt dst op E H = some (d, ef')) :
    ∃ v ef, iop mc op e h = some (v, ef) ∧ Out base S0 h0 H0 pr S h v ef d (ef'.getD H) ∧ ∀ p, p ∈ effW ef → WP pr S h H (wsOf sh op E) p := by
  by_cases hcall : ∃ f args frz, op = .call f args frz
  · obtain ⟨f, args, frz, rfl⟩ := hcall
    simp only [viopE] at hio
    split at hio
    · rename_i g caps hf
      have hr := hE.ev f; rw [hf] at hr
      obtain ⟨cs, hv, hcs⟩ := hr.fn_inv
      have hargs := (hE.evs args).append hcs
      simp only [iop, hv]
      unfold vcallE at hio
      split at hio
      · rename_i hsg
        split at hio
        · simp at hio
        · rename_i hfz
          have hfz : frz = false := by cases frz <;> simp_all
          subst hfz
          simp only [Option.map_eq_some_iff, Prod.mk.injEq] at hio
          obtain ⟨⟨d0, H1⟩, hc, rfl, rfl⟩ := hio
          obtain ⟨v, h2, w, k1, k2, k3⟩ := sharedK_sound hsim A hsg (by omega) (Nat.le_max_left _ _) hargs hc
          refine ⟨v, some (h2, w), ?_, k2, ?_⟩
          · simp only [List.nil_append, k1, Option.map_some]; rfl
          · have : wsOf sh (.call f args false) E = ((args.map (vev E) ++ caps).map refD).flatten := by simp only [wsOf, hf, hsg, ↓reduceIte]
            rw [this]; exact k3
      · rename_i hsg
        unfold vcall at hio
        rw [if_neg hsg] at hio
        simp only [Option.bind_eq_some_iff] at hio
        obtain ⟨args', q1, ⟨d0, H1⟩, q2, q3⟩ := hio
        obtain ⟨v, ef, k1, k2, k3, k4⟩ := pure_sound hsim A (by simpa using hsg) hargs q1 q2 q3
        refine ⟨v, ef, ?_, k3, ?_⟩
        · simp only [List.nil_append]; exact k1
        · intro p hp
          cases ef with
          | none => simp [effW] at hp
          | some r =>
            obtain ⟨h2, w⟩ := r
            have := k4 h2 w rfl
            subst this
            simp [effW] at hp
    · simp at hio
  · have hnc : ∀ f args frz, op ≠ .call f args frz := fun f args frz he => hcall ⟨f, args, frz, he⟩
    have hio' : viop vc sh base nt dst op E H = some (d, ef') := by
      cases op <;> first | exact hio | (exfalso; exact hcall ⟨_, _, _, rfl⟩)
    obtain ⟨v, ef, k1, k2, k3⟩ := viop_sound A hE (fun g args frz vs ha hc => vcall_sound hsim A g args frz vs ha hc) hio'
    refine ⟨v, ef, k1, k3, ?_⟩
    intro p hp
    cases ef with
    | none => simp [effW] at hp
    | some r =>
      obtain ⟨h2, w⟩ := r
      exact viop_w A hE hnc hio' (fun he => by have := k2 he; cases this) k1 p hp
omit hsim in
theorem EI.quiet {s : ESt} {t : VE} {S' : Cx} (I : EI base S0 h0 H0 pr n0 Sr Hr s t gs S) {st : St} {v : Value} {dst : Option Nat} {d : DV} {l1 : List (Nat × Nat × Nat)} {l2 : List (Nat × Nat × Nat × Nat)}
    (A' : Act base S0 h0 H0 pr S' s.st.heap t.st.H) (hx : CxE S S') (hgr : Grw S s.st.heap s.st.heap) (hd : DR S' s.st.heap v d) (hst : st = { s.st with env := setO s.st.env dst v }) (h1 : ∀ x, x ∈ l1 → x ∈ s.ld ∨ LdI gs l2 S s.st.heap x) (h2 : ∀ y, y ∈ t.ld → y ∈ l2) :
    EI base S0 h0 H0 pr n0 Sr Hr ⟨st, s.n0, s.hist, l1⟩ { t with st := ⟨vset t.st.E dst d, t.st.H⟩, ld := l2 } gs S' := by
  subst hst
  refine ⟨A', (I.env.mono hx hgr).set _ hd, I.wrs, I.r.trans hx, I.h1, I.hV, fun g hg' => (I.gso g hg').mono hx hgr, fun x hx' => ?_, I.n0, I.H0⟩
  rcases h1 x hx' with h | h
  · exact (I.ld x h).mono h2 hx hgr
  · exact h.mono (fun _ h => h) hx hgr
theorem vopE_sound {x : IOper × Nat × Nat × Nat} {s : ESt} {t t' : VE} (I : EI base S0 h0 H0 pr n0 Sr Hr s t gs S) (hpre : ∀ zs d, zsE x = some zs → x.1.dst = some d → PreI base n0 Sr Hr x d) (hv : vopE vc sh base nt x t = some t') :
    ∃ s', runOpE mc x s = some s' ∧ ∃ gs' S', EI base S0 h0 H0 pr n0 Sr Hr s' t' gs' S' := by
  have A := I.act
  have hE := I.env
  unfold vopE at hv
  unfold runOpE
  split at hv
  · rename_i zs hz
    rw [hz]
    split at hv
    · rename_i d hd
      simp only [Option.some.injEq] at hv; subst hv
      obtain ⟨p1, p2, p3⟩ := hpre zs d hz hd
      refine ⟨_, rfl, gs, S, ?_⟩
      rw [hd]
      have hver : (hg t.H0 (base + d)).ver = Sr.ver (base + d) := by rw [I.H0]; exact p3
      have hle := I.r.ver _ p1
      have hjj : S.ver (base + d) = (hg t.H0 (base + d)).ver → S.j (base + d) = s.n0 + x.2.2.1 := fun he => by
        rw [(I.r.same _ p1 (by rw [he, hver])).1, p2, I.n0]
      refine I.quiet (dst := some d) A (.refl _) (.refl _ _) (.mp _ _ _ _ _ (Nat.lt_of_lt_of_le p1 I.r.n) (by rw [hver]; exact hle) (fun he => ?_)) rfl (fun y hy => ?_) vldAdd_sub
      · rw [hjj he.symm]; simp
      · rcases List.mem_cons.1 hy with rfl | hy
        · right
          unfold vldAdd
          simp only
          split
          · refine .inr (.inr ⟨base + d, _, by simp, Nat.lt_of_lt_of_le p1 I.r.n, by rw [hver]; exact hle, hjj, fun g hg' gl gv gn hm => ?_⟩)
            have k := I.gso g hg'
            have hs := k.r.same _ p1 (by rw [← k.act.hx.ver, gv, hver])
            exact gn ((k.w _ hm).im _ gl (by rw [hs.1, p2, I.n0]))
          · rename_i hlt; exact .inl (by simpa using hlt)
        · exact .inl hy
    · simp at hv
  · rename_i hz
    rw [hz]
    simp only
    split at hv
    · rename_i hwt
      rw [vwants_rel hE hwt, if_pos rfl]
      split at hv
      · rename_i hq
        rw [hq]
        split at hv
        · rename_i hp
          simp only [Option.map_eq_some_iff] at hv
          obtain ⟨⟨d, ef'⟩, k1, rfl⟩ := hv
          have := viop_quiet (.inl hp) k1; subst this
          obtain ⟨v, ef, k2, k3, ⟨⟨S', A', hx, hg', hd⟩, _⟩⟩ := viop_sound A hE (fun g args frz vs ha hc => vcall_sound hsim A g args frz vs ha hc) k1
          have := k3 rfl; subst this
          rw [k2]
          simp only [Option.bind_some, if_pos hp]
          exact ⟨_, rfl, gs, S', I.quiet A' hx hg' hd rfl (fun y hy => .inl hy) (fun y hy => hy)⟩
        · simp at hv
      · rename_i hq
        rw [hq]
        split at hv
        · rename_i hp
          simp only [Option.map_eq_some_iff] at hv
          obtain ⟨⟨d, ef'⟩, k1, rfl⟩ := hv
          have := viop_quiet (.inr hp) k1; subst this
          obtain ⟨v, ef, k2, k3, ⟨⟨S', A', hx, hg', hd⟩, _⟩⟩ := viop_sound A hE (fun g args frz vs ha hc => vcall_sound hsim A g args frz vs ha hc) k1
          have := k3 rfl; subst this
          rw [k2]
          simp only [Option.bind_some, if_pos hp]
          have key : ∀ p, loadBlk s.st.env x.1.op = some p → LdI gs (vldAdd x.2.2.1 x.2.2.2 (vldB t.st.E x.1.op) t.ld) S s.st.heap (p, x.2.2.1, x.2.2.2) := by
            intro p hpb
            generalize x.1.op = op at hp k1 hpb
            have mpc : ∀ {a : Opd} {p : Nat} {l : List (Nat × Nat × Nat × Nat)} {b ver i k : Nat}, (∃ q, ev s.st.env a = .pointer (some q) ∧ q.block = p) → vev t.st.E a = .mp b ver i k → (hg t.st.H b).live = true → (hg t.st.H b).ver = ver →
                LdI gs (vldAdd x.2.2.1 x.2.2.2 (some (b, ver)) l) S s.st.heap (p, x.2.2.1, x.2.2.2) := by
              rintro a p l b ver i k ⟨q, hq, rfl⟩ he hl hve
              have hr := hE.ev a
              rw [he, hq] at hr
              obtain ⟨q', e1, _, _, hj⟩ := hr.mp_inv
              simp at e1; subst e1
              rw [hj (by rw [← A.hx.ver]; exact hve.symm)]
              exact .mp A I.gso hl hve
            have rpc : ∀ {a : Opd} {p : Nat} {l : List (Nat × Nat × Nat × Nat)} {r : List DV}, (∃ q, ev s.st.env a = .pointer (some q) ∧ q.block = p) → vev t.st.E a = .rp r → LdI gs l S s.st.heap (p, x.2.2.1, x.2.2.2) := by
              rintro a p l r ⟨q, hq, rfl⟩ he
              have hr := hE.ev a
              rw [he, hq] at hr
              obtain ⟨b, o, e1, hst, _⟩ := hr.rp_inv
              simp at e1; subst e1
              exact .stb A I.gso hst
            cases op <;> simp only [loadOp, Bool.false_eq_true] at hp
            case load1 a =>
              simp only [loadBlk] at hpb
              have hq : ∃ q, ev s.st.env a = .pointer (some q) ∧ q.block = p := by
                split at hpb
                · rename_i q hq; simp at hpb; exact ⟨q, hq, hpb⟩
                · simp at hpb
              simp only [viop] at k1
              split at k1
              · rename_i l hl; exact rpc hq hl
              · rename_i b ver i k hl
                simp only [Option.bind_eq_some_iff] at k1
                obtain ⟨el, hel, _⟩ := k1
                have hh := A.hx.at_ hel
                have := mpc (l := t.ld) hq hl hh.1 (by rw [A.hx.ver]; exact hh.2.1.symm)
                simpa only [vldB, hl] using this
              · simp at k1
            case loadN n a =>
              simp only [loadBlk] at hpb
              have hq : ∃ q, ev s.st.env a = .pointer (some q) ∧ q.block = p := by
                split at hpb
                · rename_i q hq; simp at hpb; exact ⟨q, hq, hpb⟩
                · simp at hpb
              simp only [viop] at k1
              split at k1
              · rename_i l hl; exact rpc hq hl
              · rename_i b ver i k hl
                simp only [Option.bind_eq_some_iff] at k1
                obtain ⟨el, hel, _⟩ := k1
                have hh := A.hx.at_ hel
                have := mpc (l := t.ld) hq hl hh.1 (by rw [A.hx.ver]; exact hh.2.1.symm)
                simpa only [vldB, hl] using this
              · simp at k1
            case slice esz y lo hi =>
              simp only [loadBlk] at hpb
              have hq : ∃ q l c, ev s.st.env y = .slice (some q) l c ∧ q.block = p ∧ ¬ (l = 0 ∧ c = 0) := by
                split at hpb
                · rename_i q l c hq
                  split at hpb
                  · simp at hpb
                  · rename_i h0; simp at hpb; exact ⟨q, l, c, hq, hpb, h0⟩
                · simp at hpb
              obtain ⟨q, ql, qc, hq, rfl, hq0⟩ := hq
              have hr := hE.ev y
              simp only [viop, Option.map_eq_some_iff] at k1
              obtain ⟨r, k1, _⟩ := k1
              unfold vslice at k1
              split at k1
              · rename_i a1 a2 a3 hl
                rw [hl, hq] at hr
                have := hr.lit_inv
                have h2 := this.2
                rw [← this.1] at h2
                simp [scal] at h2
              · rename_i L hl
                rw [hl, hq] at hr
                rcases hr.sl_inv with ⟨⟨_, h1⟩, _⟩ | ⟨b, o, e, c, h1, _, hst, _⟩
                · simp only [Value.slice.injEq] at h1; exact absurd h1.2 hq0
                · simp at h1
                  obtain ⟨rfl, _⟩ := h1
                  exact .stb A I.gso hst
              · rename_i m ver i l c hl
                simp only [Option.bind_eq_some_iff] at k1
                obtain ⟨a1, _, a2, _, k1⟩ := k1
                split at k1
                · rename_i hcc
                  rw [hl, hq] at hr
                  obtain ⟨q', e1, _, _, hj⟩ := hr.ms_inv
                  simp at e1; obtain ⟨rfl, _⟩ := e1
                  rw [hj (by rw [← A.hx.ver]; exact hcc.2.2.2.2.1.symm)]
                  have := LdI.mp (lo := x.2.2.1) (hi := x.2.2.2) (l := t.ld) A I.gso hcc.2.2.2.1 hcc.2.2.2.2.1
                  simpa only [vldB, hl] using this
                · simp at k1
              · simp at k1
          cases hlb : loadBlk s.st.env x.1.op with
          | none => exact ⟨_, rfl, gs, S', I.quiet A' hx hg' hd rfl (fun y hy => .inl hy) vldAdd_sub⟩
          | some p =>
            refine ⟨_, rfl, gs, S', I.quiet A' hx hg' hd rfl (fun y hy => ?_) vldAdd_sub⟩
            rcases List.mem_cons.1 hy with rfl | hy
            · exact .inr (key p hlb)
            · exact .inl hy
        · simp at hv
      · rename_i hq0 hq1
        simp only [Option.map_eq_some_iff] at hv
        obtain ⟨⟨d, ef'⟩, k1, rfl⟩ := hv
        obtain ⟨v, ef, k2, ⟨⟨S', A', hx, hg', hd⟩, hws⟩, k4⟩ := viopE_sound hsim A hE k1
        rw [k2]
        simp only [Option.bind_some]
        have hheap : (s.st.eff x.1.dst v ef).heap = hof2 s.st.heap ef := by cases ef <;> rfl
        have henv : (s.st.eff x.1.dst v ef).env = setO s.st.env x.1.dst v := by cases ef <;> rfl
        have hwrs : ∀ b, b ∈ (s.st.eff x.1.dst v ef).wrs → ¬ pr b := by
          cases ef with
          | none => exact I.wrs
          | some r =>
            obtain ⟨h3, w⟩ := r
            intro b hb
            simp only [St.eff] at hb
            rcases mem_addW.1 hb with hb | hb
            · exact hws h3 w rfl b hb
            · exact I.wrs b hb
        refine ⟨_, rfl, gs ++ [⟨S, s.st.heap, t.st.H, wsOf sh x.1.op t.st.E, effW ef⟩], S', ?_⟩
        refine ⟨?_, ?_, hwrs, I.r.trans hx, by simp [I.h1], by simp [I.hV], fun g hgm => ?_, fun y hy => ?_, I.n0, I.H0⟩
        · simp only; rw [hheap]; exact A'
        · simp only; rw [hheap, henv]; exact (hE.mono hx hg').set _ hd
        · simp only; rw [hheap]
          rcases List.mem_append.1 hgm with hgm | hgm
          · exact (I.gso g hgm).mono hx hg'
          · simp at hgm; subst hgm
            exact ⟨A, I.r, hx, hg', k4⟩
        · simp only; rw [hheap]
          exact ((I.ld y hy).eff A k4).mono (fun _ h => h) hx hg'
    · rename_i hwt
      simp only [Option.some.injEq] at hv; subst hv
      rw [vwants_rel hE hwt, if_neg (by simp)]
      refine ⟨_, rfl, ?_⟩
      by_cases hq : x.2.1 = 2
      · simp only [hq, ↓reduceIte]
        refine ⟨gs ++ [⟨S, s.st.heap, t.st.H, [], []⟩], S, A, hE.set _ (.tup #[] [] rfl (fun i v d h => by simp at h)), I.wrs, I.r, by simp [I.h1], by simp [I.hV], fun g hgm => ?_, fun y hy => ?_, I.n0, I.H0⟩
        · rcases List.mem_append.1 hgm with hgm | hgm
          · exact I.gso g hgm
          · simp at hgm; subst hgm
            exact ⟨A, I.r, .refl _, .refl _ _, by simp⟩
        · exact (I.ld y hy).eff A (by simp)
      · simp only [hq, ↓reduceIte]
        exact ⟨gs, S, A, hE.set _ (.tup #[] [] rfl (fun i v d h => by simp at h)), I.wrs, I.r, I.h1, I.hV, I.gso, I.ld, I.n0, I.H0⟩
    · simp at hv
theorem vopsE_sound : ∀ {os : List (IOper × Nat × Nat × Nat)} {s : ESt} {t t' : VE} {gs : List Gs} {S : Cx}, EI base S0 h0 H0 pr n0 Sr Hr s t gs S → (∀ x zs d, x ∈ os → zsE x = some zs → x.1.dst = some d → PreI base n0 Sr Hr x d) → vopsE vc sh base nt os t = some t' →
    ∃ s', runOpsE mc os s = some s' ∧ ∃ gs' S', EI base S0 h0 H0 pr n0 Sr Hr s' t' gs' S'
  | [], s, t, t', gs, S, I, hp, hv => by simp [vopsE] at hv; subst hv; exact ⟨s, rfl, gs, S, I⟩
  | o :: os, s, t, t', gs, S, I, hp, hv => by
    simp only [vopsE, Option.bind_eq_some_iff] at hv
    obtain ⟨t1, h1, h2⟩ := hv
    obtain ⟨s1, h3, gs1, S1, I1⟩ := vopE_sound hsim I (fun zs d hz hd => hp o zs d (by simp) hz hd) h1
    obtain ⟨s2, h5, h6⟩ := vopsE_sound I1 (fun x zs d hx => hp x zs d (by simp [hx])) h2
    exact ⟨s2, by simp [runOpsE, h3, h5], h6⟩
omit hsim in
theorem EI.ok {s : ESt} {t : VE} (I : EI base S0 h0 H0 pr n0 Sr Hr s t gs S) (hv : t.ld.all (vldOk t.hist) = true) : s.ld.all (ldOk s.hist) = true := by
  rw [List.all_eq_true] at hv ⊢
  intro x hx
  unfold ldOk
  rw [List.all_eq_true]
  intro j hj
  rw [List.mem_range] at hj
  simp only [Bool.or_eq_true, decide_eq_true_eq]
  by_cases hjl : j < x.2.1
  · exact .inl hjl
  right
  rw [I.h1, List.getElem?_map]
  cases hgj : gs[j]? with
  | none => rfl
  | some g =>
    have hgm := List.mem_of_getElem? hgj
    simp only [Option.map_some, Bool.not_eq_true', List.contains_eq_mem, decide_eq_false_iff_not]
    rcases I.ld x hx with h | ⟨_, h⟩ | ⟨b, ver, h1, _, _, _, h⟩
    · omega
    · exact h g hgm
    · have := hv _ h1
      unfold vldOk at this
      rw [List.all_eq_true] at this
      have := this j (List.mem_range.2 hj)
      simp only [Bool.or_eq_true, decide_eq_true_eq] at this
      rcases this with this | this
      · exact absurd this hjl
      · rw [I.hV, List.getElem?_map, hgj] at this
        simp only [Option.map_some, Bool.and_eq_true, Bool.not_eq_true', List.contains_eq_mem, decide_eq_false_iff_not, beq_iff_eq] at this
        exact h g hgm this.1.1 this.1.2 this.2
/-- The second machine's run of a region is the first's. -/
theorem vrgE_sound {k : Nat} {ops : List (IOper × Nat × Nat × Nat)} {s : St} {t t' : VSt} {x : Ex} {S : Cx} (A : Act base S0 h0 H0 pr S s.heap t.H) (hE : ERel S s.heap s.env t.E) (hw : ∀ b, b ∈ s.wrs → ¬ pr b) (hv : vrgE vc sh base nt ops t = some (x, t')) :
    ∃ s', run mc k (.rgE ops) s = some (x, s') ∧ ∃ S', Act base S0 h0 H0 pr S' s'.heap t'.H ∧ ERel S' s'.heap s'.env t'.E ∧ ∀ b, b ∈ s'.wrs → ¬ pr b := by
  unfold vrgE at hv
  simp only [Option.bind_eq_some_iff] at hv
  obtain ⟨Hr, h1, r, h2, h3⟩ := hv
  split at h3
  · rename_i hld
    simp at h3; obtain ⟨rfl, rfl⟩ := h3
    obtain ⟨Sr, B, hc, hg', _, hall⟩ := vpre_sound (n0 := s.heap.length) A rfl h1
    have I0 : EI base S0 h0 H0 pr s.heap.length Sr Hr ⟨{ s with heap := s.heap ++ (preE ops).map fun zs => Blk.cells false 0 zs }, s.heap.length, [], []⟩ ⟨⟨t.E, Hr⟩, Hr, [], []⟩ [] Sr :=
      ⟨B, hE.mono hc hg', hw, .refl _, rfl, rfl, by simp, by simp, rfl, rfl⟩
    obtain ⟨s', k1, gs', S', I⟩ := vopsE_sound hsim I0 (fun x zs d hx hz hd => hall x zs d hx hz hd) h2
    refine ⟨s'.st, ?_, S', I.act, I.env, I.wrs⟩
    simp only [run, k1, Option.bind_some, I.ok hld, ↓reduceIte]
  · simp at h3
end
end Go.Proofs.Cp
