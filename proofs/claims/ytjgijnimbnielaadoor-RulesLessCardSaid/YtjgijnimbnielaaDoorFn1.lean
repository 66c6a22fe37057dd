/- What the functions answer (part 1). -/
import Derived.Test.YtjgijnimbnielaaDoorFn0
set_option linter.unusedSimpArgs false
set_option linter.unusedVariables false
set_option maxRecDepth 100000
namespace Go.Proofs.Cp
open Go
theorem placed_l0 (c : Conf) (hc : Lens c) (hr : 1 ≤ c.regions ∧ c.regions ≤ 4) : ∀ k w, L64a c k w → Ok (R PP shF 0 54 (.loop ir64_l0) w) (fun e w => (e = .exit 0 ∧ allN (qZ c) c.zones.length = true ∧ K64 c w) ∨ (e = .ret ∧ allN (qZ c) c.zones.length = false ∧ gt .bad w.E 2 = dB false)) := by
  refine Ok_up c.zones.length (L64a c) fun k w hI => ?_
  obtain ⟨E, H⟩ := w
  obtain ⟨⟨e1, h1⟩, e8, e9, e10, hk, ha⟩ := hI
  simp only at e1 h1 e8 e9 e10
  have hz := hc.z
  have w1 : IntKind.wrap .i64 ((k : Int) + 1) = ((k + 1 : Nat) : Int) := by rw [w64 (by omega) (by omega)]; rfl
  have w2 : IntKind.wrap .i64 (c.regions - 1) = c.regions - 1 := w64 (by omega) (by omega)
  by_cases hlt : k < c.zones.length
  · have d1 : decide ((k : Int) < (c.zones.length : Int)) = true := by simp; omega
    have q1 : (k : Int) < (c.zones.length : Int) := by omega
    have q0 : (0 : Int) ≤ (k : Int) := by omega
    have g1 := getD_at (l := c.zones) (i := k) (d := 0) hlt
    have B := FV_tb (c.zones.getD k 0) 0 (c.regions - 1)
    rw [show inB (c.zones.getD k 0) 0 (c.regions - 1) = qZ c k from rfl] at B
    cases hb : qZ c k with
    | true =>
      rw [hb] at B
      simp -implicitDefEqProofs only [go_sem, ir64_l0, eK, e1, h1, e8, e9, e10, d1, q0, q1, g1, w1, w2, vpS B rfl]
      refine .next hlt ⟨⟨?_, ?_⟩, ?_, ?_, ?_, by omega, allN_next ha hb⟩ <;> simp -implicitDefEqProofs only [go_sem, e1, h1, e8, e9, w1, eK]
    | false =>
      rw [hb] at B
      simp -implicitDefEqProofs only [go_sem, ir64_l0, eK, e1, h1, e8, e9, e10, d1, q0, q1, g1, w1, w2, vpS B rfl]
      refine .ret (.inr ⟨rfl, allN_false hb _ hlt, ?_⟩)
      simp -implicitDefEqProofs only [go_sem, ]
  · have : k = c.zones.length := by omega
    subst this
    have d1 : decide ((c.zones.length : Int) < (c.zones.length : Int)) = false := by simp
    simp -implicitDefEqProofs only [go_sem, ir64_l0, eK, e9, e10, d1]
    exact .exit (.inl ⟨rfl, ha, by simp -implicitDefEqProofs only [go_sem, e1], h1⟩)
def L64b (c : Conf) (k : Nat) (w : VSt) : Prop := K64 c w ∧ gt .bad w.E 23 = .sl (c.cells.map eC) ∧ gt .bad w.E 24 = dI (c.cells.length : Nat) ∧ gt .bad w.E 25 = dI (k : Nat) ∧ k ≤ c.cells.length ∧ allN (qC c) k = true
theorem placed_l1 (c : Conf) (hc : Lens c) : ∀ k w, L64b c k w → Ok (R PP shF 0 54 (.loop ir64_l1) w) (fun e w => (e = .exit 2 ∧ allN (qC c) c.cells.length = true ∧ K64 c w) ∨ (e = .ret ∧ allN (qC c) c.cells.length = false ∧ gt .bad w.E 2 = dB false)) := by
  refine Ok_up c.cells.length (L64b c) fun k w hI => ?_
  obtain ⟨E, H⟩ := w
  obtain ⟨⟨e1, h1⟩, e23, e24, e25, hk, ha⟩ := hI
  simp only at e1 h1 e23 e24 e25
  have hz := hc.z
  have hcl := hc.c
  have w1 : IntKind.wrap .i64 ((k : Int) + 1) = ((k + 1 : Nat) : Int) := by rw [w64 (by omega) (by omega)]; rfl
  have w2 : IntKind.wrap .i64 ((c.zones.length : Int) - 1) = (c.zones.length : Int) - 1 := w64 (by omega) (by omega)
  by_cases hlt : k < c.cells.length
  · have d1 : decide ((k : Int) < (c.cells.length : Int)) = true := by simp; omega
    have q1 : (k : Int) < (c.cells.length : Int) := by omega
    have q0 : (0 : Int) ≤ (k : Int) := by omega
    have g1 := getD_at (l := c.cells) (i := k) (d := ⟨0, 0⟩) hlt
    have B1 := FV_tb (c.cells.getD k ⟨0, 0⟩).zone 0 ((c.zones.length : Int) - 1)
    have B2 := FV_tb (c.cells.getD k ⟨0, 0⟩).cap 1 4194304
    have hq : qC c k = (inB (c.cells.getD k ⟨0, 0⟩).zone 0 ((c.zones.length : Int) - 1) && inB (c.cells.getD k ⟨0, 0⟩).cap 1 4194304) := rfl
    cases x1 : inB (c.cells.getD k ⟨0, 0⟩).zone 0 ((c.zones.length : Int) - 1) with
    | true =>
      rw [x1] at B1
      cases x2 : inB (c.cells.getD k ⟨0, 0⟩).cap 1 4194304 with
      | true =>
        rw [x2] at B2
        rw [x1, x2] at hq
        simp -implicitDefEqProofs only [go_sem, ir64_l1, eK, e1, h1, e23, e24, e25, d1, q0, q1, g1, w1, w2, vpS B1 rfl, vpS B2 rfl]
        refine .next hlt ⟨⟨?_, ?_⟩, ?_, ?_, ?_, by omega, allN_next ha hq⟩ <;> simp -implicitDefEqProofs only [go_sem, e1, h1, e23, e24, w1, eK]
      | false =>
        rw [x2] at B2
        rw [x1, x2] at hq
        simp -implicitDefEqProofs only [go_sem, ir64_l1, eK, e1, h1, e23, e24, e25, d1, q0, q1, g1, w1, w2, vpS B1 rfl, vpS B2 rfl]
        refine .ret (.inr ⟨rfl, allN_false hq _ hlt, ?_⟩)
        simp -implicitDefEqProofs only [go_sem, ]
    | false =>
      rw [x1] at B1
      rw [x1] at hq
      simp -implicitDefEqProofs only [go_sem, ir64_l1, eK, e1, h1, e23, e24, e25, d1, q0, q1, g1, w1, w2, vpS B1 rfl, vpS B2 rfl]
      refine .ret (.inr ⟨rfl, allN_false hq _ hlt, ?_⟩)
      simp -implicitDefEqProofs only [go_sem, ]
  · have : k = c.cells.length := by omega
    subst this
    have d1 : decide ((c.cells.length : Int) < (c.cells.length : Int)) = false := by simp
    simp -implicitDefEqProofs only [go_sem, ir64_l1, eK, e24, e25, d1]
    exact .exit (.inl ⟨rfl, ha, by simp -implicitDefEqProofs only [go_sem, e1], h1⟩)
theorem FV_placed (c : Conf) (hc : Lens c) (hr : 1 ≤ c.regions ∧ c.regions ≤ 4) : FV PP shF 64 [.agg (eK c)] = some (dB (placedB c)) := by
  have Z1 := FV_zones c hc.z c.reps hc.p
  have Z2 := FV_zones c hc.z c.obs hc.o
  refine FV_ok (F_ok PP64 rfl ⟨by simp [ir64], by simp⟩ ?_)
  unfold placedB
  simp -implicitDefEqProofs only [go_sem, ir64, eK]
  refine (placed_l0 c hc hr 0 _ ⟨⟨?_, ?_⟩, ?_, ?_, ?_, by omega, rfl⟩).mono ?_ <;> (try simp -implicitDefEqProofs only [go_sem, eK])
  rintro e ⟨E, H⟩ (⟨rfl, hb, e1, h1⟩ | ⟨rfl, hb, e4⟩)
  · simp only at e1 h1
    simp -implicitDefEqProofs only [go_sem, eK, e1, h1, hb]
    refine (placed_l1 c hc 0 _ ⟨⟨?_, ?_⟩, ?_, ?_, ?_, by omega, rfl⟩).mono ?_ <;> (try simp -implicitDefEqProofs only [go_sem, e1, h1, eK])
    rintro e ⟨E, H⟩ (⟨rfl, hb, e1, h1⟩ | ⟨rfl, hb, e4⟩)
    · simp only at e1 h1
      generalize zonesB c c.reps = z1 at *
      generalize zonesB c c.obs = z2 at *
      cases z1
      · simp -implicitDefEqProofs only [go_sem, eK, e1, h1, hb, vpS Z1 rfl]
      · simp -implicitDefEqProofs only [go_sem, eK, e1, h1, hb, vpS Z1 rfl, vpS Z2 rfl]
    · simp only at e4
      simp -implicitDefEqProofs only [go_sem, hb, e4]
  · simp only at e4
    simp -implicitDefEqProofs only [go_sem, hb, e4]
def versB (c : Conf) : Bool := allN (qV c) c.vers.length && firstB c
def qV2 (c : Conf) (i : Nat) : Bool := qV c i && (decide (i ≠ 0) || firstB c)
def L65 (c : Conf) (k : Nat) (w : VSt) : Prop := gt .bad w.E 6 = .sl (c.vers.map eV) ∧ gt .bad w.E 7 = dI (c.vers.length : Nat) ∧ gt .bad w.E 8 = dI (k : Nat) ∧ k ≤ c.vers.length ∧ allN (qV2 c) k = true
theorem vers_l0 (c : Conf) (hc : Lens c) : ∀ k w, L65 c k w → Ok (R PP shF 0 38 (.loop ir65_l0) w) (Qb (allN (qV2 c) c.vers.length) 2) := by
  refine Ok_up c.vers.length (L65 c) fun k w hI => ?_
  obtain ⟨E, H⟩ := w
  obtain ⟨e6, e7, e8, hk, ha⟩ := hI
  simp only at e6 e7 e8
  have hv := hc.v
  have w1 : IntKind.wrap .i64 ((k : Int) + 1) = ((k + 1 : Nat) : Int) := by rw [w64 (by omega) (by omega)]; rfl
  by_cases hlt : k < c.vers.length
  · have d1 : decide ((k : Int) < (c.vers.length : Int)) = true := by simp; omega
    have q1 : (k : Int) < (c.vers.length : Int) := by omega
    have q0 : (0 : Int) ≤ (k : Int) := by omega
    have g1 := getD_at (l := c.vers) (i := k) (d := ⟨0, 0⟩) hlt
    by_cases a1 : 0 ≤ (c.vers.getD k ⟨0, 0⟩).low
    · have b1 : decide ((c.vers.getD k ⟨0, 0⟩).low < 0) = false := decide_eq_false (by omega)
      by_cases a2 : (c.vers.getD k ⟨0, 0⟩).low ≤ (c.vers.getD k ⟨0, 0⟩).high
      · have b2 : decide ((c.vers.getD k ⟨0, 0⟩).high < (c.vers.getD k ⟨0, 0⟩).low) = false := decide_eq_false (by omega)
        by_cases a3 : (c.vers.getD k ⟨0, 0⟩).high ≤ 30
        · have b3 : decide (30 < (c.vers.getD k ⟨0, 0⟩).high) = false := decide_eq_false (by omega)
          by_cases a4 : k = 0
          · have b4 : ((k : Int) == 0) = true := by simp; exact a4
            cases hf : firstB c with
            | true =>
              have b5 : ((c.vers.getD k ⟨0, 0⟩).low != 0) = false := by rw [a4]; unfold firstB at hf; simp only [bne, hf]; rfl
              have hq : qV2 c k = true := by unfold qV2 qV; rw [decide_eq_true a1, decide_eq_true a2, decide_eq_true a3, hf, Bool.or_true]; rfl
              simp -implicitDefEqProofs only [go_sem, ir65_l0, eK, e6, e7, e8, d1, q0, q1, g1, w1, b1, b2, b3, b4, b5]
              refine .next hlt ⟨?_, ?_, ?_, by omega, allN_next ha hq⟩ <;> simp -implicitDefEqProofs only [go_sem, e6, e7, w1, eK]
            | false =>
              have b5 : ((c.vers.getD k ⟨0, 0⟩).low != 0) = true := by rw [a4]; unfold firstB at hf; simp only [bne, hf]; rfl
              have hq : qV2 c k = false := by simp [qV2, hf, a4]
              simp -implicitDefEqProofs only [go_sem, ir65_l0, eK, e6, e7, e8, d1, q0, q1, g1, w1, b1, b2, b3, b4, b5]
              refine .ret (.inr ⟨rfl, allN_false hq _ hlt, ?_⟩)
              simp -implicitDefEqProofs only [go_sem, ]
          · have b4 : ((k : Int) == 0) = false := by simp; exact a4
            have hq : qV2 c k = true := by unfold qV2 qV; rw [decide_eq_true a1, decide_eq_true a2, decide_eq_true a3, decide_eq_true (show k ≠ 0 from a4), Bool.true_or]; rfl
            simp -implicitDefEqProofs only [go_sem, ir65_l0, eK, e6, e7, e8, d1, q0, q1, g1, w1, b1, b2, b3, b4]
            refine .next hlt ⟨?_, ?_, ?_, by omega, allN_next ha hq⟩ <;> simp -implicitDefEqProofs only [go_sem, e6, e7, w1, eK]
        · have b3 : decide (30 < (c.vers.getD k ⟨0, 0⟩).high) = true := decide_eq_true (by omega)
          have hq : qV2 c k = false := by unfold qV2 qV; rw [decide_eq_false a3, Bool.and_false, Bool.false_and]
          simp -implicitDefEqProofs only [go_sem, ir65_l0, eK, e6, e7, e8, d1, q0, q1, g1, w1, b1, b2, b3]
          refine .ret (.inr ⟨rfl, allN_false hq _ hlt, ?_⟩)
          simp -implicitDefEqProofs only [go_sem, ]
      · have b2 : decide ((c.vers.getD k ⟨0, 0⟩).high < (c.vers.getD k ⟨0, 0⟩).low) = true := decide_eq_true (by omega)
        have hq : qV2 c k = false := by unfold qV2 qV; rw [decide_eq_false a2, Bool.and_false, Bool.false_and, Bool.false_and]
        simp -implicitDefEqProofs only [go_sem, ir65_l0, eK, e6, e7, e8, d1, q0, q1, g1, w1, b1, b2]
        refine .ret (.inr ⟨rfl, allN_false hq _ hlt, ?_⟩)
        simp -implicitDefEqProofs only [go_sem, ]
    · have b1 : decide ((c.vers.getD k ⟨0, 0⟩).low < 0) = true := decide_eq_true (by omega)
      have hq : qV2 c k = false := by unfold qV2 qV; rw [decide_eq_false a1, Bool.false_and, Bool.false_and, Bool.false_and]
      simp -implicitDefEqProofs only [go_sem, ir65_l0, eK, e6, e7, e8, d1, q0, q1, g1, w1, b1]
      refine .ret (.inr ⟨rfl, allN_false hq _ hlt, ?_⟩)
      simp -implicitDefEqProofs only [go_sem, ]
  · have : k = c.vers.length := by omega
    subst this
    have d1 : decide ((c.vers.length : Int) < (c.vers.length : Int)) = false := by simp
    simp -implicitDefEqProofs only [go_sem, ir65_l0, eK, e7, e8, d1]
    exact .exit (.inl ⟨rfl, ha⟩)
theorem versB_eq (c : Conf) (h : c.vers.length ≠ 0) : allN (qV2 c) c.vers.length = versB c := by
  have key : ∀ n : Nat, allN (qV2 c) (n + 1) = (allN (qV c) (n + 1) && firstB c) := by
    intro n
    induction n with
    | zero => simp [allN, qV2]
    | succ n ih =>
      show (allN (qV2 c) (n + 1) && qV2 c (n + 1)) = ((allN (qV c) (n + 1) && qV c (n + 1)) && firstB c)
      rw [ih]
      have : qV2 c (n + 1) = qV c (n + 1) := by simp [qV2]
      rw [this]
      cases allN (qV c) (n + 1) <;> cases qV c (n + 1) <;> cases firstB c <;> rfl
  obtain ⟨n, hn⟩ : ∃ n, c.vers.length = n + 1 := ⟨c.vers.length - 1, by omega⟩
  unfold versB
  rw [hn]; exact key n
theorem FV_versions (c : Conf) (hc : Lens c) (h : c.vers.length ≠ 0) : FV PP shF 65 [.agg (eK c)] = some (dB (versB c)) := by
  rw [← versB_eq c h]
  refine FV_ok (F_ok PP65 rfl ⟨by simp [ir65], by simp⟩ ?_)
  simp -implicitDefEqProofs only [go_sem, ir65, eK]
  refine (vers_l0 c hc 0 _ ⟨?_, ?_, ?_, by omega, rfl⟩).mono ?_ <;> (try simp -implicitDefEqProofs only [go_sem, eK])
  rintro e ⟨E, H⟩ (⟨rfl, hb⟩ | ⟨rfl, hb, e4⟩)
  · simp -implicitDefEqProofs only [go_sem, hb]
  · simp only at e4
    simp -implicitDefEqProofs only [go_sem, hb, e4]
def evenB (c : Conf) : Bool := (c.reps.length : Int).tmod 2 == 0
def restB (c : Conf) : Bool := inB c.blast 1 16 && inB c.lease 1 1000 && inB c.bake 0 10000
def okB4 (c : Conf) : Bool := !evenB c && placedB c && versB c && restB c
def validN (c : Conf) : Int := if limB c = true then (if okB4 c = true then 0 else 1) else 2
theorem limB_facts {c : Conf} (h : limB c = true) : (1 ≤ c.regions ∧ c.regions ≤ 4) ∧ c.vers.length ≠ 0 := by
  unfold limB inB at h
  simp only [Bool.and_eq_true, decide_eq_true_eq] at h
  obtain ⟨⟨⟨⟨⟨⟨h1, _⟩, _⟩, h4⟩, _⟩, _⟩, _⟩ := h
  exact ⟨h1, by omega⟩
theorem FV_Valid (c : Conf) (hc : Lens c) : FV PP shF 30 [.agg (eK c)] = some (dI (validN c)) := by
  refine FV_ok (F_ok PP30 rfl ⟨by simp [ir30], by simp⟩ ?_)
  have B1 := FV_sized c
  have T1 := FV_tb c.blast 1 16
  have T2 := FV_tb c.lease 1 1000
  have T3 := FV_tb c.bake 0 10000
  unfold validN
  cases hl : limB c with
  | false =>
    rw [hl] at B1
    simp -implicitDefEqProofs only [go_sem, ir30, eK, vpS B1 rfl]
  | true =>
    rw [hl] at B1
    have B2 := FV_placed c hc (limB_facts hl).1
    have B3 := FV_versions c hc (limB_facts hl).2
    unfold okB4 restB
    have he : ((c.reps.length : Int).tmod 2 == 0) = evenB c := rfl
    generalize evenB c = ev at *
    generalize placedB c = pl at *
    generalize versB c = ve at *
    generalize inB c.blast 1 16 = r1 at *
    generalize inB c.lease 1 1000 = r2 at *
    generalize inB c.bake 0 10000 = r3 at *
    cases ev
    · cases pl
      · simp -implicitDefEqProofs only [go_sem, ir30, eK, vpS B1 rfl, he, vpS B2 rfl]
      · cases ve
        · simp -implicitDefEqProofs only [go_sem, ir30, eK, vpS B1 rfl, he, vpS B2 rfl, vpS B3 rfl]
        · cases r1
          · simp -implicitDefEqProofs only [go_sem, ir30, eK, vpS B1 rfl, he, vpS B2 rfl, vpS B3 rfl, vpS T1 rfl]
          · cases r2
            · simp -implicitDefEqProofs only [go_sem, ir30, eK, vpS B1 rfl, he, vpS B2 rfl, vpS B3 rfl, vpS T1 rfl, vpS T2 rfl]
            · cases r3
              · simp -implicitDefEqProofs only [go_sem, ir30, eK, vpS B1 rfl, he, vpS B2 rfl, vpS B3 rfl, vpS T1 rfl, vpS T2 rfl, vpS T3 rfl]
              · simp -implicitDefEqProofs only [go_sem, ir30, eK, vpS B1 rfl, he, vpS B2 rfl, vpS B3 rfl, vpS T1 rfl, vpS T2 rfl, vpS T3 rfl]
    · simp -implicitDefEqProofs only [go_sem, ir30, eK, vpS B1 rfl, he]
def rightB (W : Int) (t : Ten) : Bool := inB t.load 1 65536 && inB t.shadow 0 t.load && inB t.prio 0 9 && inB t.lag (-1) 1000 && (decide (1 ≤ t.allowed) && decide (t.allowed < W)) && inB t.group 0 32
def wid (c : Conf) : Int := 2 ^ c.regions.toNat
theorem wid_eq {R : Int} (h : 1 ≤ R ∧ R ≤ 4) : IntKind.wrap .i64 (1 * 2 ^ min R.toNat 64) = 2 ^ R.toNat ∧ (2 : Int) ^ R.toNat ≤ 16 ∧ (2 : Int) ≤ 2 ^ R.toNat := by
  obtain ⟨h1, h2⟩ := h
  obtain rfl | rfl | rfl | rfl : R = 1 ∨ R = 2 ∨ R = 3 ∨ R = 4 := by omega
  all_goals exact ⟨rfl, by decide, by decide⟩
theorem FV_right (c : Conf) (hr : 1 ≤ c.regions ∧ c.regions ≤ 4) (t : Ten) : FV PP shF 114 [.agg (eK c), .agg (eT t)] = some (dB (rightB (wid c) t)) := by
  obtain ⟨hs, hw1, hw2⟩ := wid_eq hr
  have nr : ¬ c.regions < 0 := by omega
  have w1 : IntKind.wrap .i64 (wid c - 1) = wid c - 1 := by unfold wid; exact w64 (by omega) (by omega)
  rw [show (2 : Int) ^ c.regions.toNat = wid c from rfl] at hs hw1 hw2
  have B1 := FV_between t.load 1 65536
  have B2 := FV_between t.shadow 0 t.load
  have B3 := FV_between t.prio 0 9
  have B4 := FV_between t.lag (-1) 1000
  have B5 := FV_between t.allowed 1 (wid c - 1)
  have B6 := FV_between t.group 0 32
  have h5 : (decide (1 ≤ t.allowed) && decide (t.allowed ≤ wid c - 1)) = (decide (1 ≤ t.allowed) && decide (t.allowed < wid c)) := by
    congr 1
    rw [Bool.eq_iff_iff]
    simp only [decide_eq_true_eq]
    omega
  rw [h5] at B5
  refine FV_ok (F_ok PP114 rfl ⟨by simp [ir114], by simp⟩ ?_)
  unfold rightB inB
  generalize (decide (1 ≤ t.load) && decide (t.load ≤ 65536)) = r1 at *
  generalize (decide (0 ≤ t.shadow) && decide (t.shadow ≤ t.load)) = r2 at *
  generalize (decide (0 ≤ t.prio) && decide (t.prio ≤ 9)) = r3 at *
  generalize (decide (-1 ≤ t.lag) && decide (t.lag ≤ 1000)) = r4 at *
  generalize (decide (1 ≤ t.allowed) && decide (t.allowed < wid c)) = r5 at *
  generalize (decide (0 ≤ t.group) && decide (t.group ≤ 32)) = r6 at *
  cases r1
  · simp -implicitDefEqProofs only [go_sem, ir114, eK, nr, hs, w1, vpS B1 rfl]
  cases r2
  · simp -implicitDefEqProofs only [go_sem, ir114, eK, nr, hs, w1, vpS B1 rfl, vpS B2 rfl]
  cases r3
  · simp -implicitDefEqProofs only [go_sem, ir114, eK, nr, hs, w1, vpS B1 rfl, vpS B2 rfl, vpS B3 rfl]
  cases r4
  · simp -implicitDefEqProofs only [go_sem, ir114, eK, nr, hs, w1, vpS B1 rfl, vpS B2 rfl, vpS B3 rfl, vpS B4 rfl]
  cases r5
  · simp -implicitDefEqProofs only [go_sem, ir114, eK, nr, hs, w1, vpS B1 rfl, vpS B2 rfl, vpS B3 rfl, vpS B4 rfl, vpS B5 rfl]
  cases r6
  · simp -implicitDefEqProofs only [go_sem, ir114, eK, nr, hs, w1, vpS B1 rfl, vpS B2 rfl, vpS B3 rfl, vpS B4 rfl, vpS B5 rfl, vpS B6 rfl]
  simp -implicitDefEqProofs only [go_sem, ir114, eK, nr, hs, w1, vpS B1 rfl, vpS B2 rfl, vpS B3 rfl, vpS B4 rfl, vpS B5 rfl, vpS B6 rfl]
def qT (c : Conf) (i : Nat) : Bool := rightB (wid c) (c.tens.getD i ⟨0, 0, 0, 0, 0, 0, false⟩)
def validT (c : Conf) : Int := if validN c = 0 then (if allN (qT c) c.tens.length = true then 0 else 1) else validN c
theorem validN_lim {c : Conf} (h : validN c = 0) : limB c = true := by
  unfold validN at h
  cases hl : limB c with
  | true => rfl
  | false => rw [hl] at h; simp at h
def L103 (c : Conf) (k : Nat) (w : VSt) : Prop := gt .bad w.E 1 = .mp 1 1 0 0 ∧ hg w.H 1 = ⟨1, 0, true, [eK c]⟩ ∧ gt .bad w.E 12 = .sl (c.tens.map eT) ∧ gt .bad w.E 13 = dI (c.tens.length : Nat) ∧ gt .bad w.E 14 = dI (k : Nat) ∧ k ≤ c.tens.length ∧ allN (qT c) k = true
theorem tvalid_l0 (c : Conf) (hc : Lens c) (hr : 1 ≤ c.regions ∧ c.regions ≤ 4) : ∀ k w, L103 c k w → Ok (R PP shF 0 23 (.loop ir103_l0) w) (fun e w => (e = .exit 0 ∧ allN (qT c) c.tens.length = true) ∨ (e = .ret ∧ allN (qT c) c.tens.length = false ∧ gt .bad w.E 2 = dI 1)) := by
  refine Ok_up c.tens.length (L103 c) fun k w hI => ?_
  obtain ⟨E, H⟩ := w
  obtain ⟨e1, h1, e12, e13, e14, hk, ha⟩ := hI
  simp only at e1 h1 e12 e13 e14
  have ht := hc.t
  have w1 : IntKind.wrap .i64 ((k : Int) + 1) = ((k + 1 : Nat) : Int) := by rw [w64 (by omega) (by omega)]; rfl
  by_cases hlt : k < c.tens.length
  · have d1 : decide ((k : Int) < (c.tens.length : Int)) = true := by simp; omega
    have q1 : (k : Int) < (c.tens.length : Int) := by omega
    have q0 : (0 : Int) ≤ (k : Int) := by omega
    have g1 := getD_at (l := c.tens) (i := k) (d := ⟨0, 0, 0, 0, 0, 0, false⟩) hlt
    have B := FV_right c hr (c.tens.getD k ⟨0, 0, 0, 0, 0, 0, false⟩)
    rw [show rightB (wid c) (c.tens.getD k ⟨0, 0, 0, 0, 0, 0, false⟩) = qT c k from rfl] at B
    cases hb : qT c k with
    | true =>
      rw [hb] at B
      simp -implicitDefEqProofs only [go_sem, ir103_l0, eK, eT, e1, h1, e12, e13, e14, d1, q0, q1, g1, w1, vpS B rfl]
      refine .next hlt ⟨?_, ?_, ?_, ?_, ?_, by omega, allN_next ha hb⟩ <;> simp -implicitDefEqProofs only [go_sem, e1, h1, e12, e13, w1, eK]
    | false =>
      rw [hb] at B
      simp -implicitDefEqProofs only [go_sem, ir103_l0, eK, eT, e1, h1, e12, e13, e14, d1, q0, q1, g1, w1, vpS B rfl]
      refine .ret (.inr ⟨rfl, allN_false hb _ hlt, ?_⟩)
      simp -implicitDefEqProofs only [go_sem, ]
  · have : k = c.tens.length := by omega
    subst this
    have d1 : decide ((c.tens.length : Int) < (c.tens.length : Int)) = false := by simp
    simp -implicitDefEqProofs only [go_sem, ir103_l0, eK, e13, e14, d1]
    exact .exit (.inl ⟨rfl, ha⟩)
theorem FV_tValid (c : Conf) (hc : Lens c) : FV PP shF 103 [.agg (eK c)] = some (dI (validT c)) := by
  have V := FV_Valid c hc
  refine FV_ok (F_ok PP103 rfl ⟨by simp [ir103], by simp⟩ ?_)
  unfold validT
  by_cases h0 : validN c = 0
  · obtain ⟨hr, _⟩ := limB_facts (validN_lim h0)
    rw [h0] at V
    have n0 : ((0 : Int) != 0) = false := rfl
    simp -implicitDefEqProofs only [go_sem, ir103, eK, vpS V rfl, h0, n0]
    refine (tvalid_l0 c hc hr 0 _ ⟨?_, ?_, ?_, ?_, ?_, by omega, rfl⟩).mono ?_ <;> (try simp -implicitDefEqProofs only [go_sem, eK])
    rintro e ⟨E, H⟩ (⟨rfl, hb⟩ | ⟨rfl, hb, e2⟩)
    · simp -implicitDefEqProofs only [go_sem, hb]
    · simp only at e2
      simp -implicitDefEqProofs only [go_sem, hb, e2]
  · have d1 : (validN c != 0) = true := by simp [h0]
    simp -implicitDefEqProofs only [go_sem, ir103, eK, vpS V rfl, d1, h0]
def inC (c : Conf) (n : Int) : Bool := decide (0 ≤ n) && decide (n < c.cells.length)
def plcB (c : Conf) (x : Plc) : Bool := ((x.home == -1) || inC c x.home) && ((x.sby == -1) || inC c x.sby)
def fitB (c : Conf) (ps : List Plc) : Bool := (validT c == 0) && ((ps.length : Int) == (c.tens.length : Int)) && ps.all (plcB c)
def L90 (p : Prob) (ps : List Plc) (i : Nat) (w : VSt) : Prop := gt .bad w.E 2 = .mp 2 1 0 0 ∧ hg w.H 2 = ⟨1, 0, true, [eQ p]⟩ ∧ gt .bad w.E 20 = .sl (ps.map eP) ∧ gt .bad w.E 21 = dI (ps.length : Nat) ∧ gt .bad w.E 22 = dI (i : Nat) ∧ i ≤ ps.length ∧ ∀ j, j < i → plcB p.conf (plc ps j) = true
theorem fit_l0 (p : Prob) (ps : List Plc) (hps : ps.length ≤ 1000) : ∀ i w, L90 p ps i w → Ok (R PP shF 0 49 (.loop ir90_l0) w) (fun e w => (e = .exit 0 ∧ ∀ j, j < ps.length → plcB p.conf (plc ps j) = true) ∨ (e = .ret ∧ gt .bad w.E 4 = dB false ∧ ∃ j, j < ps.length ∧ plcB p.conf (plc ps j) = false)) := by
  refine Ok_up ps.length _ fun i w hI => ?_
  obtain ⟨E, H⟩ := w
  obtain ⟨e2, h2, e20, e21, e22, hk, hall⟩ := hI
  simp only at e2 h2 e20 e21 e22
  have w1 : IntKind.wrap .i64 ((i : Int) + 1) = ((i + 1 : Nat) : Int) := by rw [w64 (by omega) (by omega)]; rfl
  by_cases hlt : i < ps.length
  · have d1 : decide ((i : Int) < (ps.length : Int)) = true := decide_eq_true (by omega)
    have q0 : (0 : Int) ≤ (i : Int) := by omega
    have q1 : (i : Int) < (ps.length : Int) := by omega
    have g1 : ps[i]? = some (plc ps i) := getD_at hlt
    have C1 := FV_cell p (plc ps i).home
    have C2 := FV_cell p (plc ps i).sby
    have nx : plcB p.conf (plc ps i) = true → ∀ j, j < i + 1 → plcB p.conf (plc ps j) = true := fun h j hj => by
      by_cases hji : j = i
      · rw [hji]; exact h
      · exact hall j (by omega)
    have hp : plcB p.conf (plc ps i) = ((((plc ps i).home == -1) || (decide (0 ≤ (plc ps i).home) && decide ((plc ps i).home < p.conf.cells.length))) && (((plc ps i).sby == -1) || (decide (0 ≤ (plc ps i).sby) && decide ((plc ps i).sby < p.conf.cells.length)))) := rfl
    generalize hb : plcB p.conf (plc ps i) = pb at *
    cases a1 : ((plc ps i).home == -1) with
    | true =>
      have a1' : ((plc ps i).home != -1) = false := by unfold bne; rw [a1]; rfl
      cases b1 : ((plc ps i).sby == -1) with
      | true =>
        have b1' : ((plc ps i).sby != -1) = false := by unfold bne; rw [b1]; rfl
        simp -implicitDefEqProofs only [go_sem, ir90_l0, eQ, e2, h2, e20, e21, e22, d1, q0, q1, g1, w1, a1', b1']
        refine .next hlt ⟨?_, ?_, ?_, ?_, ?_, by omega, nx (by rw [hp, a1, b1]; rfl)⟩ <;> simp -implicitDefEqProofs only [go_sem, eQ, e2, h2, e20, e21, w1]
      | false =>
        have b1' : ((plc ps i).sby != -1) = true := by unfold bne; rw [b1]; rfl
        cases b2 : (decide (0 ≤ (plc ps i).sby) && decide ((plc ps i).sby < (p.conf.cells.length : Int))) with
        | true =>
          rw [b2] at C2
          simp -implicitDefEqProofs only [go_sem, ir90_l0, eQ, e2, h2, e20, e21, e22, d1, q0, q1, g1, w1, a1', b1', vpS C2 rfl]
          refine .next hlt ⟨?_, ?_, ?_, ?_, ?_, by omega, nx (by rw [hp, a1, b1, b2]; rfl)⟩ <;> simp -implicitDefEqProofs only [go_sem, eQ, e2, h2, e20, e21, w1]
        | false =>
          rw [b2] at C2
          simp -implicitDefEqProofs only [go_sem, ir90_l0, eQ, e2, h2, e20, e21, e22, d1, q0, q1, g1, w1, a1', b1', vpS C2 rfl]
          exact .ret (.inr ⟨rfl, by simp -implicitDefEqProofs only [go_sem, ], i, hlt, by rw [hb, hp, a1, b1, b2]; rfl⟩)
    | false =>
      have a1' : ((plc ps i).home != -1) = true := by unfold bne; rw [a1]; rfl
      cases a2 : (decide (0 ≤ (plc ps i).home) && decide ((plc ps i).home < (p.conf.cells.length : Int))) with
      | false =>
        rw [a2] at C1
        simp -implicitDefEqProofs only [go_sem, ir90_l0, eQ, e2, h2, e20, e21, e22, d1, q0, q1, g1, w1, a1', vpS C1 rfl]
        exact .ret (.inr ⟨rfl, by simp -implicitDefEqProofs only [go_sem, ], i, hlt, by rw [hb, hp, a1, a2]; rfl⟩)
      | true =>
        rw [a2] at C1
        cases b1 : ((plc ps i).sby == -1) with
        | true =>
          have b1' : ((plc ps i).sby != -1) = false := by unfold bne; rw [b1]; rfl
          simp -implicitDefEqProofs only [go_sem, ir90_l0, eQ, e2, h2, e20, e21, e22, d1, q0, q1, g1, w1, a1', b1', vpS C1 rfl]
          refine .next hlt ⟨?_, ?_, ?_, ?_, ?_, by omega, nx (by rw [hp, a1, a2, b1]; rfl)⟩ <;> simp -implicitDefEqProofs only [go_sem, eQ, e2, h2, e20, e21, w1]
        | false =>
          have b1' : ((plc ps i).sby != -1) = true := by unfold bne; rw [b1]; rfl
          cases b2 : (decide (0 ≤ (plc ps i).sby) && decide ((plc ps i).sby < (p.conf.cells.length : Int))) with
          | true =>
            rw [b2] at C2
            simp -implicitDefEqProofs only [go_sem, ir90_l0, eQ, e2, h2, e20, e21, e22, d1, q0, q1, g1, w1, a1', b1', vpS C1 rfl, vpS C2 rfl]
            refine .next hlt ⟨?_, ?_, ?_, ?_, ?_, by omega, nx (by rw [hp, a1, a2, b1, b2]; rfl)⟩ <;> simp -implicitDefEqProofs only [go_sem, eQ, e2, h2, e20, e21, w1]
          | false =>
            rw [b2] at C2
            simp -implicitDefEqProofs only [go_sem, ir90_l0, eQ, e2, h2, e20, e21, e22, d1, q0, q1, g1, w1, a1', b1', vpS C1 rfl, vpS C2 rfl]
            exact .ret (.inr ⟨rfl, by simp -implicitDefEqProofs only [go_sem, ], i, hlt, by rw [hb, hp, a1, a2, b1, b2]; rfl⟩)
  · have hkl : i = ps.length := by omega
    have d1 : decide ((i : Int) < (ps.length : Int)) = false := decide_eq_false (by omega)
    simp -implicitDefEqProofs only [go_sem, ir90_l0, e21, e22, d1]
    subst hkl
    exact .exit (.inl ⟨rfl, hall⟩)
theorem all_plc {c : Conf} {ps : List Plc} : (ps.all (plcB c) = true ↔ ∀ j, j < ps.length → plcB c (plc ps j) = true) := by
  rw [List.all_eq_true]
  constructor
  · intro h j hj; exact h _ (List.mem_of_getElem? (getD_at (l := ps) (i := j) (d := ⟨0, 0⟩) hj))
  · intro h x hx
    obtain ⟨j, hj, rfl⟩ := List.mem_iff_getElem.1 hx
    have := h j hj
    unfold plc at this
    rwa [List.getD_eq_getElem?_getD, List.getElem?_eq_getElem hj] at this
theorem FV_Fit (p : Prob) (hc : Lens p.conf) (ps : List Plc) (hps : ps.length ≤ 1000) : FV PP shF 90 [.agg (eQ p), .sl (ps.map eP)] = some (dB (fitB p.conf ps)) := by
  refine FV_ok (F_ok PP90 rfl ⟨by simp [ir90], by simp⟩ ?_)
  have V := FV_tValid p.conf hc
  unfold fitB
  cases v : (validT p.conf == 0) with
  | false =>
    have v' : (validT p.conf != 0) = true := by unfold bne; rw [v]; rfl
    simp -implicitDefEqProofs only [go_sem, ir90, eQ, eK, vpS V rfl, v']
  | true =>
    have v' : (validT p.conf != 0) = false := by unfold bne; rw [v]; rfl
    cases l : ((ps.length : Int) == (p.conf.tens.length : Int)) with
    | false =>
      have l' : ((ps.length : Int) != (p.conf.tens.length : Int)) = true := by unfold bne; rw [l]; rfl
      simp -implicitDefEqProofs only [go_sem, ir90, eQ, eK, vpS V rfl, v', l']
    | true =>
      have l' : ((ps.length : Int) != (p.conf.tens.length : Int)) = false := by unfold bne; rw [l]; rfl
      simp -implicitDefEqProofs only [go_sem, ir90, eQ, eK, vpS V rfl, v', l']
      refine (fit_l0 p ps hps 0 _ ⟨?_, ?_, ?_, ?_, ?_, by omega, fun j hj => by omega⟩).mono ?_ <;> (try simp -implicitDefEqProofs only [go_sem, eQ])
      rintro e ⟨E, H⟩ (⟨rfl, h⟩ | ⟨rfl, e4, j, hj, h⟩)
      · rw [all_plc.2 h]
        simp -implicitDefEqProofs only [go_sem, ]
      · have : ps.all (plcB p.conf) = false := by
          cases ha : ps.all (plcB p.conf) with
          | false => rfl
          | true => rw [all_plc.1 ha j hj] at h; simp at h
        rw [this]
        simp only at e4
        simp -implicitDefEqProofs only [go_sem, e4]
theorem FV_run (k : Nat) {g : Nat} (h : (vmach PP shF k g [] [] 0).map (·.1) = some (dB true)) : FV PP shF g [] = some (dB true) := by
  simp only [Option.map_eq_some_iff] at h
  obtain ⟨⟨d, H⟩, h1, h2⟩ := h
  simp only at h2; subst h2
  exact FV_B (F_of k h1)
theorem allN_true {q : Nat → Bool} : ∀ n : Nat, (∀ i, i < n → q i = true) → allN q n = true
  | 0, _ => rfl
  | n + 1, h => by simp only [allN, allN_true n (fun i hi => h i (by omega)), h n (by omega), Bool.and_self]
theorem inB_true {n lo hi : Int} (h : lo ≤ n ∧ n ≤ hi) : inB n lo hi = true := by unfold inB; rw [decide_eq_true h.1, decide_eq_true h.2]; rfl
theorem ConfOk.valid {c : Conf} (hc : ConfOk c) : validN c = 0 := by
  have r0 := hc.r0
  have r1 := hc.r1
  have z0 := hc.z0
  have z1 := hc.z1
  have c0 := hc.c0
  have c1 := hc.c1
  have t1 := hc.t1
  have v1 := hc.v1
  have v0 := List.length_pos_iff.2 hc.v0
  have o0 := hc.o0
  have o1 := hc.o1
  have hl : limB c = true := by
    unfold limB
    rw [inB_true ⟨by omega, by omega⟩, inB_true ⟨by omega, by omega⟩, inB_true ⟨by omega, by omega⟩, inB_true ⟨by omega, by omega⟩, inB_true (n := (c.reps.length : Int)) ⟨by rcases hc.ps with h | h <;> omega, by rcases hc.ps with h | h <;> omega⟩, inB_true ⟨by omega, by omega⟩, decide_eq_true (by omega)]
    rfl
  have he : evenB c = false := by
    unfold evenB
    rcases hc.ps with h | h <;> rw [h] <;> rfl
  have hz : ∀ l : List Int, (∀ z, z ∈ l → 0 ≤ z ∧ z < (c.zones.length : Int)) → zonesB c l = true := fun l h => allN_true _ fun i hi => by
    have g := getD_at (l := l) (i := i) (d := 0) hi
    have := h _ (List.mem_of_getElem? g)
    exact inB_true ⟨by omega, by omega⟩
  have hp : placedB c = true := by
    unfold placedB
    rw [hz _ hc.pz, hz _ hc.oz, allN_true _ (fun i hi => ?_), allN_true _ (fun i hi => ?_)]
    · rfl
    · have g := getD_at (l := c.cells) (i := i) (d := ⟨0, 0⟩) hi
      have := hc.cs _ (List.mem_of_getElem? g)
      unfold qC
      rw [inB_true ⟨by omega, by omega⟩, inB_true ⟨by omega, by omega⟩]; rfl
    · have g := getD_at (l := c.zones) (i := i) (d := 0) hi
      have := hc.zs _ (List.mem_of_getElem? g)
      exact inB_true ⟨by omega, by omega⟩
  have hv : versB c = true := by
    unfold versB
    have g0 := getD_at (l := c.vers) (i := 0) (d := ⟨0, 0⟩) v0
    have hf : firstB c = true := by
      unfold firstB
      rw [hc.vh (c.vers.getD 0 ⟨0, 0⟩) (by rw [← g0, List.head?_eq_getElem?])]
      rfl
    rw [hf, allN_true _ (fun i hi => ?_)]
    · rfl
    · have g := getD_at (l := c.vers) (i := i) (d := ⟨0, 0⟩) hi
      have := hc.vs _ (List.mem_of_getElem? g)
      unfold qV
      have x1 := this.l1
      have x2 := this.h1
      rw [decide_eq_true this.l0, decide_eq_true this.h0, decide_eq_true (by omega)]
      rfl
  have hr : restB c = true := by
    unfold restB
    have := hc.b0
    have := hc.b1
    have := hc.l0
    have := hc.l1
    have := hc.k0
    have := hc.k1
    rw [inB_true ⟨by omega, by omega⟩, inB_true ⟨by omega, by omega⟩, inB_true ⟨by omega, by omega⟩]; rfl
  unfold validN okB4
  rw [hl, he, hp, hv, hr]; rfl
theorem FV_awake17 : FV PP shF 89 [] = some (dB true) := FV_run 60 (by kernel_rfl)
theorem ConfOk.validT {c : Conf} (hc : ConfOk c) : Cp.validT c = 0 := by
  have r0 := hc.r0
  have r1 := hc.r1
  unfold Cp.validT
  rw [hc.valid, if_pos rfl, allN_true _ (fun i hi => ?_)]
  · rfl
  · have g := getD_at (l := c.tens) (i := i) (d := ⟨0, 0, 0, 0, 0, 0, false⟩) hi
    have h := hc.ts _ (List.mem_of_getElem? g)
    have a0 := h.l0
    have a1 := h.l1
    have a2 := h.s0
    have a3 := h.s1
    have a4 := h.p0
    have a5 := h.p1
    have a6 := h.g0
    have a7 := h.g1
    have a8 := h.a0
    have a9 := h.a1
    have b0 := h.u0
    have b1 := h.u1
    have hw : allR c.regions < wid c := by
      unfold wid
      obtain hh | hh | hh : c.regions = 1 ∨ c.regions = 2 ∨ c.regions = 3 := by omega
      all_goals (rw [hh]; decide)
    unfold qT rightB
    rw [inB_true ⟨by omega, by omega⟩, inB_true ⟨by omega, by omega⟩, inB_true ⟨by omega, by omega⟩, inB_true ⟨by omega, by omega⟩, inB_true ⟨by omega, by omega⟩, decide_eq_true (by omega), decide_eq_true (by omega)]
    rfl
theorem fit_iff {c : Conf} (hc : ConfOk c) (ps : List Plc) : fitB c ps = true ↔ FitP c ps := by
  unfold fitB FitP
  rw [hc.validT]
  simp only [beq_self_eq_true, Bool.true_and, Bool.and_eq_true, beq_iff_eq]
  constructor
  · rintro ⟨h1, h2⟩
    refine ⟨by omega, fun x hx => ?_⟩
    have := List.all_eq_true.1 h2 x hx
    unfold plcB inC at this
    simp at this
    exact ⟨by omega, by omega, by omega, by omega⟩
  · rintro ⟨h1, h2⟩
    refine ⟨by omega, List.all_eq_true.2 fun x hx => ?_⟩
    have := h2 x hx
    have a := this.h0; have b := this.h1; have d := this.s0; have e := this.s1
    unfold plcB inC
    simp
    omega
theorem FVF_Partial (p : Prob) (hc : ConfOk p.conf) (ps : List Plc) (hps : ps.length ≤ 1000) : FVF PP shF 93 [.agg (eQ p), .sl (ps.map eP)] (.sl ((if fitB p.conf ps = true then partL p ps else []).map eB)) := by
  refine FVF_ok (F_ok PP93 rfl ⟨by simp [ir93], by simp⟩ ?_)
  have K := FV_Fit p hc.lens ps hps
  cases hf : fitB p.conf ps with
  | false =>
    rw [hf] at K
    simp -implicitDefEqProofs only [go_sem, ir93, eQ, vpS K rfl]
    rfl
  | true =>
    rw [hf] at K
    have hfit := (fit_iff hc ps).1 hf
    have A : ∀ (H : VHeap) (b : Nat), hg H 13 = ⟨1, 0, true, [fdr p ps (.lit (.slice none 0 0))]⟩ → H.length ≤ b → 20 ≤ b → F PP shF 105 [.mp 13 1 0 0] H b = some (.tup [], FH 105 [.mp 13 1 0 0] H b) ∧ ∃ bo ov, hg (FH 105 [.mp 13 1 0 0] H b) 13 = ⟨1, 0, true, [fdr p ps ov]⟩ ∧ SlB (FH 105 [.mp 13 1 0 0] H b) bo 5 ((partL p ps).map eB) ov := by
      intro H b h1 h2 h3
      have := FH_eq (partial_ok p hc ps hfit [] (by simp) H b 13 1 0 (.lit (.slice none 0 0)) h2 h1 SlB.nil (by decide) (by omega) (by omega))
      obtain ⟨e1, bo, ov, c1, c2, _⟩ := this
      exact ⟨e1, bo, ov, c1, by simpa using c2⟩
    have A1 := fun H b h1 h2 h3 => (A H b h1 h2 h3).1
    simp -implicitDefEqProofs only [go_sem, ir93, eQ, vpS K rfl, A1]
    obtain ⟨_, bo, ov, c1, c2⟩ := A (hs (hs [] 2 ⟨1, 0, true, [eQ p]⟩) 13 ⟨1, 0, true, [fdr p ps (.lit (.slice none 0 0))]⟩) (max (max (max 0 3) 14) 20) (by simp -implicitDefEqProofs only [go_sem, ]) (by simp [hs_len]) (by decide)
    generalize FH 105 _ _ _ = H' at c1 c2 ⊢
    simp -implicitDefEqProofs only [go_sem, c1]
    exact ⟨c2.frz (by decide) (closed_eB _) 5, c2.fresh (by decide) (lits_eB _) 4⟩
def L92 (L : List Brk) (k : Nat) (w : VSt) : Prop := gt .bad w.E 0 = .sl (L.map eB) ∧ gt .bad w.E 1 = .sl (L.map eB) ∧ gt .bad w.E 5 = dI (k : Nat) ∧ k ≤ L.length
theorem same17_l0 (L : List Brk) (hL : L.length ≤ 1000000) : ∀ k w, L92 L k w → Ok (R PP shF 0 26 (.loop ir92_l0) w) (fun e w => e = .exit 0) := by
  refine Ok_up L.length (L92 L) fun k w hI => ?_
  obtain ⟨E, H⟩ := w
  obtain ⟨e0, e1, e5, hk⟩ := hI
  simp only at e0 e1 e5
  have w1 : IntKind.wrap .i64 ((k : Int) + 1) = ((k + 1 : Nat) : Int) := by rw [w64 (by omega) (by omega)]; rfl
  by_cases hlt : k < L.length
  · have d1 : decide ((k : Int) < (L.length : Int)) = true := decide_eq_true (by omega)
    have q0 : (0 : Int) ≤ (k : Int) := by omega
    have q1 : (k : Int) < (L.length : Int) := by omega
    have g1 := getD_at (l := L) (i := k) (d := ⟨0, 0, 0, 0, 0⟩) hlt
    have n1 : ∀ x : Int, (x == x) = true := fun x => by simp
    simp -implicitDefEqProofs only [go_sem, ir92_l0, e0, e1, e5, d1, q0, q1, g1, w1, n1]
    refine .next hlt ⟨?_, ?_, ?_, by omega⟩ <;> simp -implicitDefEqProofs only [go_sem, e0, e1, w1]
  · have hkl : k = L.length := by omega
    have d1 : decide ((k : Int) < (L.length : Int)) = false := decide_eq_false (by omega)
    simp -implicitDefEqProofs only [go_sem, ir92_l0, e0, e5, d1]
    exact .exit rfl
theorem FV_Same17 (L : List Brk) (hL : L.length ≤ 1000000) : FV PP shF 92 [.sl (L.map eB), .sl (L.map eB)] = some (dB true) := by
  refine FV_ok (F_ok PP92 rfl ⟨by simp [ir92], by simp⟩ ?_)
  have n1 : ((L.length : Int) != (L.length : Int)) = false := by simp
  simp -implicitDefEqProofs only [go_sem, ir92, n1]
  refine (same17_l0 L hL 0 _ ⟨?_, ?_, ?_, by omega⟩).mono ?_ <;> (try simp -implicitDefEqProofs only [go_sem, ])
  rintro e ⟨E, H⟩ rfl
  simp -implicitDefEqProofs only [go_sem, ]
theorem w0L : ∀ n : Nat, n ≤ 1000000 → IntKind.wrap .i64 ((n : Int) + 1) = ((n + 1 : Nat) : Int) := fun n h => by rw [w64 (by omega) (by omega)]; rfl
theorem getD_mem {α : Type} {l : List α} {i : Nat} {d : α} (h : i < l.length) : l.getD i d ∈ l := by
  rw [List.getD_eq_getElem?_getD, List.getElem?_eq_getElem h]; exact List.getElem_mem h
theorem all_eB (L : List Brk) : (L.map eB).all (fun el => el.length == 5) = true := by simp [List.all_eq_true, eB]
def LeL (l m : List Int) : Prop := l.length = m.length ∧ ∀ j : Nat, l.getD j 0 ≤ m.getD j 0
theorem LeL.refl (l : List Int) : LeL l l := ⟨rfl, fun _ => Int.le_refl _⟩
theorem addAt_get (l : List Int) (i x : Int) (j : Nat) : (addAt l i x).getD j 0 = if (j : Int) = i ∧ i < l.length then l.getD j 0 + x else l.getD j 0 := by
  unfold addAt
  by_cases h : 0 ≤ i ∧ i < l.length
  · rw [if_pos h]
    by_cases hj : (j : Int) = i
    · have e : i.toNat = j := by omega
      rw [if_pos ⟨hj, h.2⟩, e, List.getD_eq_getElem?_getD, List.getElem?_set_self (by omega)]; rfl
    · rw [if_neg (fun a => hj a.1), List.getD_eq_getElem?_getD, List.getElem?_set_ne (by omega), ← List.getD_eq_getElem?_getD]
  · rw [if_neg h, if_neg (by omega)]
theorem LeL.add {l m : List Int} (h : LeL l m) (i x : Int) : LeL (addAt l i x) (addAt m i x) := by
  refine ⟨by rw [addAt_len, addAt_len]; exact h.1, fun j => ?_⟩
  rw [addAt_get, addAt_get, h.1]
  have := h.2 j
  split <;> omega
theorem LeL.ge {l m : List Int} (h : LeL l m) (i x : Int) (hx : 0 ≤ x) : LeL l (addAt m i x) := by
  refine ⟨by rw [addAt_len]; exact h.1, fun j => ?_⟩
  rw [addAt_get]
  have := h.2 j
  split <;> omega
theorem addAt_neg (l : List Int) (x : Int) : addAt l (-1) x = l := by unfold addAt; rw [if_neg (by omega)]
/-- Some places are open. -/
def Opn (qs ps : List Plc) : Prop := qs.length = ps.length ∧ ∀ k : Nat, k < ps.length → plc qs k = plc ps k ∨ plc qs k = ⟨-1, -1⟩
theorem Opn.set {ps : List Plc} (i : Nat) : Opn (ps.set i ⟨-1, -1⟩) ps := by
  refine ⟨by simp, fun k hk => ?_⟩
  unfold plc
  by_cases h : i = k
  · subst h; right; rw [List.getD_eq_getElem?_getD, List.getElem?_set_self hk]; rfl
  · left; rw [List.getD_eq_getElem?_getD, List.getElem?_set_ne h, ← List.getD_eq_getElem?_getD]
theorem booked_mono {c : Conf} (hc : ConfOk c) {qs ps : List Plc} (ho : Opn qs ps) : ∀ k, k ≤ ps.length → k ≤ c.tens.length → LeL (booked c qs k) (booked c ps k)
  | 0, _, _ => LeL.refl _
  | k + 1, h1, h2 => by
    have ih := booked_mono hc ho k (by omega) (by omega)
    have ht := ten_ok hc (k := k) (by omega)
    have l0 := ht.l0
    have s0 := ht.s0
    simp only [booked]
    rcases ho.2 k (by omega) with h | h
    · rw [h]; exact (ih.add _ _).add _ _
    · rw [h, addAt_neg, addAt_neg]; exact (ih.ge _ _ (by omega)).ge _ _ (by omega)
theorem insideB_neg (c : Conf) (r : Int) : insideB c (-1) r = false := by
  have : regOf c (-1) = -1 := by
    unfold regOf zoneOf regZ
    rw [if_neg (by omega)]; try rw [if_neg (by omega)]
  unfold insideB; rw [this]; rfl
theorem extra_mono {c : Conf} (hc : ConfOk c) {qs ps : List Plc} (ho : Opn qs ps) (r : Int) : ∀ k, k ≤ ps.length → k ≤ c.tens.length → LeL (extra c qs r k) (extra c ps r k)
  | 0, _, _ => LeL.refl _
  | k + 1, h1, h2 => by
    have ih := extra_mono hc ho r k (by omega) (by omega)
    have ht := ten_ok hc (k := k) (by omega)
    have s1 := ht.s1
    simp only [extra]
    rcases ho.2 k (by omega) with h | h
    · have he : exC c qs r k = exC c ps r k := by unfold exC; rw [h]
      rw [he, h]
      split
      · exact ih.add _ _
      · exact ih
    · have he : exC c qs r k = false := by unfold exC; rw [h, insideB_neg]; rfl
      rw [he, if_neg (by simp)]
      split
      · exact ih.ge _ _ (by omega)
      · exact ih
theorem oneL_open {rule : Int} {h : Int → Int → Bool} {qs ps : List Plc} (ho : Opn qs ps) : ∀ n, n ≤ ps.length → oneL rule h ps n = [] → oneL rule h qs n = []
  | 0, _, _ => rfl
  | n + 1, hn, he => by
    simp only [oneL, List.append_eq_nil_iff] at he ⊢
    refine ⟨oneL_open ho n (by omega) he.1, ?_⟩
    rcases ho.2 n (by omega) with e | e
    · rw [e]; exact he.2
    · rw [e]; simp [oneK, oneX, two2]
theorem apL_open {c : Conf} {qs ps : List Plc} (ho : Opn qs ps) : ∀ n, n ≤ ps.length → apL c ps n = [] → apL c qs n = []
  | 0, _, _ => rfl
  | n + 1, hn, he => by
    simp only [apL, List.append_eq_nil_iff] at he ⊢
    refine ⟨apL_open ho n (by omega) he.1, ?_⟩
    rcases ho.2 n (by omega) with e | e
    · rw [e]; exact he.2
    · rw [e]; simp [apX]
theorem prX_open {rule : Int} {f g : Nat → Nat → Bool} {qs ps : List Plc} (ho : Opn qs ps) (i k : Nat) (hi : i < ps.length) (hk : k < ps.length) (hfg : plc qs i = plc ps i → plc qs k = plc ps k → f i k = g i k) (he : prX rule g ps i k = []) : prX rule f qs i k = [] := by
  unfold prX at he ⊢
  rcases ho.2 i hi with e | e
  · rcases ho.2 k hk with e2 | e2
    · rw [hfg e e2, e, e2]; exact he
    · rw [e2]; simp
  · rw [e]; simp
theorem prK_open {rule : Int} {f g : Nat → Nat → Bool} {qs ps : List Plc} (ho : Opn qs ps) (i : Nat) (hi : i < ps.length) (hfg : ∀ k, plc qs i = plc ps i → plc qs k = plc ps k → f i k = g i k) : ∀ n, n ≤ i → prK rule g ps i n = [] → prK rule f qs i n = []
  | 0, _, _ => rfl
  | n + 1, hn, he => by
    simp only [prK, List.append_eq_nil_iff] at he ⊢
    exact ⟨prK_open ho i hi hfg n (by omega) he.1, prX_open ho i n hi (by omega) (hfg n) he.2⟩
theorem prL_open {rule : Int} {f g : Nat → Nat → Bool} {qs ps : List Plc} (ho : Opn qs ps) (hfg : ∀ i k, plc qs i = plc ps i → plc qs k = plc ps k → f i k = g i k) : ∀ n, n ≤ ps.length → prL rule g ps n = [] → prL rule f qs n = []
  | 0, _, _ => rfl
  | n + 1, hn, he => by
    simp only [prL, List.append_eq_nil_iff] at he ⊢
    exact ⟨prL_open ho hfg n (by omega) he.1, prK_open ho n (by omega) (hfg n) n (Nat.le_refl n) he.2⟩
theorem cpL_open {c : Conf} {b b' : List Int} (h : LeL b b') : ∀ n, cpL c b' n = [] → cpL c b n = []
  | 0, _ => rfl
  | n + 1, he => by
    simp only [cpL, List.append_eq_nil_iff] at he ⊢
    refine ⟨cpL_open h n he.1, ?_⟩
    have e := he.2
    have := h.2 n
    unfold cpX at e ⊢
    by_cases hx : b'.getD n 0 > capI c n
    · rw [if_pos hx] at e; simp at e
    · rw [if_neg (by omega)]
theorem hrK_open {c : Conf} {b b' x x' : List Int} {r : Int} (h : LeL b b') (h2 : LeL x x') : ∀ n, hrK c b' x' r n = [] → hrK c b x r n = []
  | 0, _ => rfl
  | n + 1, he => by
    simp only [hrK, List.append_eq_nil_iff] at he ⊢
    refine ⟨hrK_open h h2 n he.1, ?_⟩
    have e := he.2
    have t1 := h.2 n
    have t2 := h2.2 n
    unfold hrX at e ⊢
    by_cases hx : insideB c (n : Int) r = false ∧ b'.getD n 0 + x'.getD n 0 > capI c n
    · rw [if_pos hx] at e; simp at e
    · rw [if_neg (fun hy => hx ⟨hy.1, by have := hy.2; omega⟩)]
theorem hrL_open {c : Conf} (hc : ConfOk c) {b b' : List Int} {qs ps : List Plc} (ho : Opn qs ps) (hl : ps.length ≤ c.tens.length) (h : LeL b b') : ∀ n, hrL c b' ps n = [] → hrL c b qs n = []
  | 0, _ => rfl
  | n + 1, he => by
    simp only [hrL, List.append_eq_nil_iff] at he ⊢
    refine ⟨hrL_open hc ho hl h n he.1, ?_⟩
    rw [ho.1]
    exact hrK_open h (extra_mono hc ho _ _ (Nat.le_refl _) hl) _ he.2
/-- A placement that breaks no rule breaks none when places of it are opened. -/
theorem partL_open {p : Prob} (hc : ConfOk p.conf) {qs ps : List Plc} (hl : ps.length = p.conf.tens.length) (ho : Opn qs ps) (he : partL p ps = []) : partL p qs = [] := by
  have hb := booked_mono hc ho ps.length (Nat.le_refl _) (by omega)
  unfold partL at he ⊢
  rw [ho.1]
  simp only [List.append_eq_nil_iff] at he ⊢
  obtain ⟨⟨⟨⟨⟨⟨a1, a2⟩, a3⟩, a4⟩, a5⟩, a6⟩, a7⟩ := he
  refine ⟨⟨⟨⟨⟨⟨oneL_open ho _ (Nat.le_refl _) a1, oneL_open ho _ (Nat.le_refl _) a2⟩, apL_open ho _ (Nat.le_refl _) a3⟩, prL_open ho (fun i k e1 e2 => by unfold grpB; rw [e1, e2]) _ (Nat.le_refl _) a4⟩, prL_open ho (fun i k e1 e2 => by unfold nsyB; rw [e1, e2]) _ (Nat.le_refl _) a5⟩, cpL_open hb _ a6⟩, ?_⟩
  cases hh : p.head with
  | false => rw [if_neg (by simp)]
  | true => rw [hh, if_pos rfl] at a7; rw [if_pos rfl]; exact hrL_open hc ho (by omega) hb _ a7
/-- Without headroom. -/
def noH (p : Prob) : Prob := { p with head := false }
def hdL (p : Prob) (ps : List Plc) : List Brk := hrL p.conf (booked p.conf ps ps.length) ps p.conf.regions.toNat
theorem partL_head {p : Prob} (hh : p.head = true) (ps : List Plc) : partL p ps = partL (noH p) ps ++ hdL p ps := by
  unfold partL hdL noH
  simp only [hh, if_true]
  rw [if_neg (by simp), List.append_nil]
theorem hrK_rule (c : Conf) (b x : List Int) (r : Int) : ∀ n, ∀ y ∈ hrK c b x r n, y.rule = 9
  | 0 => by simp [hrK]
  | n + 1 => by
    intro y hy
    rcases List.mem_append.1 hy with h | h
    · exact hrK_rule c b x r n y h
    · unfold hrX at h; split at h <;> simp at h; subst h; rfl
theorem hrL_rule (c : Conf) (b : List Int) (ps : List Plc) : ∀ n, ∀ y ∈ hrL c b ps n, y.rule = 9
  | 0 => by simp [hrL]
  | n + 1 => by
    intro y hy
    rcases List.mem_append.1 hy with h | h
    · exact hrL_rule c b ps n y h
    · exact hrK_rule _ _ _ _ _ y h
def L86 (p : Prob) (ps : List Plc) (L : List Brk) (t : Int) (k : Nat) (w : VSt) : Prop := gt .bad w.E 3 = dI t ∧ gt .bad w.E 9 = .mp 9 1 0 0 ∧ hg w.H 9 = ⟨1, 0, true, [eQ p]⟩ ∧ gt .bad w.E 11 = .sl (ps.map eP) ∧ gt .bad w.E 12 = .sl (L.map eB) ∧ gt .bad w.E 14 = dI (k : Nat)
theorem less_l0 (p : Prob) (ps : List Plc) (L M : List Brk) (t : Int) (hl : M.length + L.length ≤ 1000) (hL : ∀ y ∈ L, y.rule = 9) : ∀ k w, (L86 p ps (M ++ L) t (M.length + k) w ∧ k ≤ L.length) → Ok (R PP shF 0 95 (.loop ir86_l0) w) (fun e w => e = .exit 0 ∧ L86 p ps (M ++ L) t (M.length + L.length) w) := by
  refine Ok_up L.length (fun k w => L86 p ps (M ++ L) t (M.length + k) w ∧ k ≤ L.length) fun k w hI => ?_
  obtain ⟨E, H⟩ := w
  obtain ⟨⟨e3, e9, h9, e11, e12, e14⟩, hk⟩ := hI
  simp only at e3 e9 h9 e11 e12 e14
  have hlen : (M ++ L).length = M.length + L.length := List.length_append
  generalize hj : M.length + k = j at e14
  have w1 := w0L j (by omega)
  by_cases hlt : k < L.length
  · have d1 : decide ((j : Int) < ((M ++ L).length : Int)) = true := decide_eq_true (by omega)
    have q0 : (0 : Int) ≤ (j : Int) := by omega
    have q1 : (j : Int) < ((M ++ L).length : Int) := by omega
    have g1 := getD_at (l := M ++ L) (i := j) (d := ⟨0, 0, 0, 0, 0⟩) (by omega)
    have f : ((M ++ L).getD j ⟨0, 0, 0, 0, 0⟩).rule = 9 := by
      apply hL
      rw [List.getD_eq_getElem?_getD, List.getElem?_append_right (by omega), ← List.getD_eq_getElem?_getD]
      exact getD_mem (by omega)
    have k1 : ((9 : Int) != 9) = false := rfl
    simp -implicitDefEqProofs only [go_sem, ir86_l0, e12, e14, d1, q0, q1, g1, w1, f, k1]
    refine .next hlt ⟨⟨?_, ?_, ?_, ?_, ?_, ?_⟩, by omega⟩ <;> simp -implicitDefEqProofs only [go_sem, e3, e9, h9, e11, e12, w1]
    rw [← hj]; rfl
  · have d1 : decide ((j : Int) < ((M ++ L).length : Int)) = false := decide_eq_false (by omega)
    have hjl : j = M.length + L.length := by omega
    simp -implicitDefEqProofs only [go_sem, ir86_l0, e12, e14, d1]
    rw [← hjl]
    refine .exit ⟨rfl, ?_, ?_, h9, ?_, ?_, ?_⟩ <;> simp -implicitDefEqProofs only [go_sem, e3, e9, e11, e12, e14]
theorem all_eP (L : List Plc) : (L.map eP).all (fun el => el.length == 2) = true := by simp [List.all_eq_true, eP]
theorem one_eP (L : List Plc) : (L.map eP).all (fun el => el.length == 2 && el.all oneD) = true := by simp [List.all_eq_true, eP, oneD]
theorem less_neg {c : Conf} : PlcOk c ⟨-1, -1⟩ := ⟨by decide, by simp only; omega, by decide, by simp only; omega⟩
theorem law_RulesLess (l : List Int) (hl : I64s l) (m : List Int) (hm : I64s m) (cells : Int) (h1 : I64 cells) (t : Int) (h2 : I64 t) : OkF (F PP shF 86 [dL l, dL m, dI cells, dI t] [] 0) (fun d _ => d = dB true) := by
  refine F_ok PP86 rfl ⟨by simp [ir86], by simp⟩ ?_
  have L := FV_Light l
  have L2 := FV_Light m
  by_cases hlen : l.length ≤ 200
  case neg => rw [decide_eq_false hlen] at L; simp -implicitDefEqProofs only [go_sem, ir86, vpS L rfl, vpS FV_awake17 rfl]
  rw [decide_eq_true hlen] at L
  by_cases hlen2 : m.length ≤ 200
  case neg => rw [decide_eq_false hlen2] at L2; simp -implicitDefEqProofs only [go_sem, ir86, vpS L rfl, vpS L2 rfl, vpS FV_awake17 rfl]
  rw [decide_eq_true hlen2] at L2
  obtain ⟨p, hc, hcells, hhd, hP⟩ := FV_Problem l hl cells h1 true
  obtain ⟨ps, hps1, hps2, hQ⟩ := FVF_Places m hm p.conf hc
  have hfit : FitP p.conf ps := ⟨hps1, hps2⟩
  have ht := hc.t1
  have A1 := FVF_Partial p hc ps (by omega)
  have A2 := FVF_Partial (noH p) hc ps (by omega)
  rw [(fit_iff hc ps).2 hfit, if_pos rfl] at A1
  rw [show (noH p).conf = p.conf from rfl, (fit_iff hc ps).2 hfit, if_pos rfl] at A2
  simp only [noH, eQ, hhd] at A1 A2
  have pl := partL_len hc hfit
  have hh := partL_head hhd ps
  have hlen3 : (partL p ps).length = (partL (noH p) ps).length + (hdL p ps).length := by rw [hh, List.length_append]
  simp only [noH] at hh hlen3
  generalize hM : partL { p with head := false } ps = M at *
  have d1 : decide ((M.length : Int) > ((partL p ps).length : Int)) = false := decide_eq_false (by omega)
  have d1' : decide (((partL p ps).length : Int) < (M.length : Int)) = false := decide_eq_false (by omega)
  have q1 : (M.length : Int) ≤ ((partL p ps).length : Int) := by omega
  have q0 : (0 : Int) ≤ (M.length : Int) := by omega
  have ha := all_eB (partL p ps)
  have htk : List.take M.length ((partL p ps).map eB) = M.map eB := by rw [hh, ← List.map_take, List.take_left]
  have S1 := FV_Same17 M (by omega)
  simp -implicitDefEqProofs only [go_sem, ir86, vpS L rfl, vpS L2 rfl, vpL hP rfl, eQ, eK, hhd, vpF hQ rfl, vpS FV_awake17 rfl, vpF A1 rfl, vpF A2 rfl, d1, d1', q0, q1, ha, htk, vpS S1 rfl]
  refine (less_l0 p ps (hdL p ps) M t (by omega) (fun y hy => hrL_rule _ _ _ _ y hy) 0 _ ⟨⟨?_, ?_, ?_, ?_, ?_, ?_⟩, by omega⟩).mono ?_ <;> (try simp -implicitDefEqProofs only [go_sem, eQ, eK, hhd]) <;> (try rfl)
  · rw [hh]
  rintro e ⟨E, H⟩ ⟨rfl, e3, e9, h9, e11, e12, e14⟩
  simp only at e3 e9 h9 e11 e12 e14
  rw [← hh] at e12
  by_cases hp0 : ps = []
  · subst hp0
    simp -implicitDefEqProofs only [go_sem, e11, e12]
  have hp1 : 1 ≤ ps.length := by have := List.length_pos_iff.2 hp0; omega
  have f1 : ((ps.length : Int) == 0) = false := by simp; omega
  by_cases hn : partL p ps = []
  case neg =>
    have hn1 := List.length_pos_iff.2 hn
    have f2 : decide (((partL p ps).length : Int) > 0) = true := decide_eq_true (by omega)
    have f2' : decide ((0 : Int) < ((partL p ps).length : Int)) = true := decide_eq_true (by omega)
    simp -implicitDefEqProofs only [go_sem, e11, e12, f1, f2, f2']
  have f2 : decide ((0 : Int) < ((partL p ps).length : Int)) = false := decide_eq_false (by rw [hn]; simp)
  have f3 : decide (((partL p ps).length : Int) > 0) = false := decide_eq_false (by rw [hn]; simp)
  have MD := FV_Mod t (ps.length : Nat) h2 (by omega) (by omega)
  have y0 : 0 ≤ t % (ps.length : Int) := Int.emod_nonneg _ (by omega)
  have y1 : t % (ps.length : Int) < (ps.length : Int) := Int.emod_lt_of_pos _ (by omega)
  generalize t % (ps.length : Int) = i at MD y0 y1
  obtain ⟨n, rfl⟩ : ∃ n : Nat, i = n := ⟨i.toNat, by omega⟩
  have y2 := getD_at (l := ps) (i := n) (d := ⟨0, 0⟩) (by omega)
  have x0 : ¬ ps.length ≤ 0 := by omega
  have x1 : ps.length * 16 ≤ 140737488355328 ∧ ps.length ≤ 9223372036854775807 := by omega
  have x4 : List.take ps.length (ps.map eP) = ps.map eP := List.take_of_length_le (by simp)
  have y3 : (ps.map eP).set n [dI (-1), dI (-1)] = (ps.set n ⟨-1, -1⟩).map eP := by rw [List.map_set]
  have y5 : (ps.set n ⟨-1, -1⟩).length = ps.length := by simp
  have y6 : List.take ps.length ((ps.set n ⟨-1, -1⟩).map eP) = (ps.set n ⟨-1, -1⟩).map eP := List.take_of_length_le (by simp)
  have ho : Opn (ps.set n ⟨-1, -1⟩) ps := Opn.set n
  have hf2 : FitP p.conf (ps.set n ⟨-1, -1⟩) := ⟨by rw [y5, hps1], fun x hx => by
    rcases List.mem_or_eq_of_mem_set hx with h | h
    · exact hps2 x h
    · subst h; exact less_neg⟩
  have hz := partL_open hc hps1 ho hn
  have A4 := FVF_Partial p hc (ps.set n ⟨-1, -1⟩) (by omega)
  rw [(fit_iff hc _).2 hf2, if_pos rfl, hz] at A4
  generalize hqs : ps.set n ⟨-1, -1⟩ = qs at *
  have y4 := closed_eP qs
  have z1 := all_eP ps
  have z2 := one_eP ps
  have z0 : ps.map eP ≠ [] := by simpa using hp0
  simp -implicitDefEqProofs only [go_sem, eQ, e3, e9, h9, e11, e12, f1, f2, f3, vpS MD rfl, x0, x1, x4, y0, y1, y2, y3, y4, y5, y6, z0, z1, z2, closed_eP, Nat.le_refl, vpF A4 rfl]
end Go.Proofs.Cp
