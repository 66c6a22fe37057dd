/- What the functions answer (part 1). -/
import Derived.Test.YtjgijnimbnielaaDoorFn0
set_option linter.unusedSimpArgs false
set_option linter.unusedVariables false
set_option maxRecDepth 100000
namespace Go.Proofs.Cp
open Go
theorem placed_l0 (c : Conf) (hc : Lens c) (hr : 1 ≤ c.regions ∧ c.regions ≤ 4) : ∀ k w, L64a c k w → Ok (R PP shF 0 54 (.loop ir64_l0) w) (fun e w => (e = .exit 0 ∧ allN (qZ c) c.zones.length = true ∧ K64 c w) ∨ (e = .ret ∧ allN (qZ c) c.zones.length = false ∧ gt .bad w.E 2 = dB false)) := by
  refine Ok_up c.zones.length (L64a c) fun k w hI => ?_
  obtain ⟨E, H⟩ := w
  obtain ⟨⟨e1, h1⟩, e8, e9, e10, hk, ha⟩ := hI
  simp only at e1 h1 e8 e9 e10
  have hz := hc.z
  have w1 : IntKind.wrap .i64 ((k : Int) + 1) = ((k + 1 : Nat) : Int) := by rw [w64 (by omega) (by omega)]; rfl
  have w2 : IntKind.wrap .i64 (c.regions - 1) = c.regions - 1 := w64 (by omega) (by omega)
  by_cases hlt : k < c.zones.length
  · have d1 : decide ((k : Int) < (c.zones.length : Int)) = true := by simp; omega
    have q1 : (k : Int) < (c.zones.length : Int) := by omega
    have q0 : (0 : Int) ≤ (k : Int) := by omega
    have g1 := getD_at (l := c.zones) (i := k) (d := 0) hlt
    have B := FV_tb (c.zones.getD k 0) 0 (c.regions - 1)
    rw [show inB (c.zones.getD k 0) 0 (c.regions - 1) = qZ c k from rfl] at B
    cases hb : qZ c k with
    | true =>
      rw [hb] at B
      simp -implicitDefEqProofs only [go_sem, ir64_l0, eK, e1, h1, e8, e9, e10, d1, q0, q1, g1, w1, w2, vpS B rfl]
      refine .next hlt ⟨⟨?_, ?_⟩, ?_, ?_, ?_, by omega, allN_next ha hb⟩ <;> simp -implicitDefEqProofs only [go_sem, e1, h1, e8, e9, w1, eK]
    | false =>
      rw [hb] at B
      simp -implicitDefEqProofs only [go_sem, ir64_l0, eK, e1, h1, e8, e9, e10, d1, q0, q1, g1, w1, w2, vpS B rfl]
      refine .ret (.inr ⟨rfl, allN_false hb _ hlt, ?_⟩)
      simp -implicitDefEqProofs only [go_sem, ]
  · have : k = c.zones.length := by omega
    subst this
    have d1 : decide ((c.zones.length : Int) < (c.zones.length : Int)) = false := by simp
    simp -implicitDefEqProofs only [go_sem, ir64_l0, eK, e9, e10, d1]
    exact .exit (.inl ⟨rfl, ha, by simp -implicitDefEqProofs only [go_sem, e1], h1⟩)
def L64b (c : Conf) (k : Nat) (w : VSt) : Prop := K64 c w ∧ gt .bad w.E 23 = .sl (c.cells.map eC) ∧ gt .bad w.E 24 = dI (c.cells.length : Nat) ∧ gt .bad w.E 25 = dI (k : Nat) ∧ k ≤ c.cells.length ∧ allN (qC c) k = true
theorem placed_l1 (c : Conf) (hc : Lens c) : ∀ k w, L64b c k w → Ok (R PP shF 0 54 (.loop ir64_l1) w) (fun e w => (e = .exit 2 ∧ allN (qC c) c.cells.length = true ∧ K64 c w) ∨ (e = .ret ∧ allN (qC c) c.cells.length = false ∧ gt .bad w.E 2 = dB false)) := by
  refine Ok_up c.cells.length (L64b c) fun k w hI => ?_
  obtain ⟨E, H⟩ := w
  obtain ⟨⟨e1, h1⟩, e23, e24, e25, hk, ha⟩ := hI
  simp only at e1 h1 e23 e24 e25
  have hz := hc.z
  have hcl := hc.c
  have w1 : IntKind.wrap .i64 ((k : Int) + 1) = ((k + 1 : Nat) : Int) := by rw [w64 (by omega) (by omega)]; rfl
  have w2 : IntKind.wrap .i64 ((c.zones.length : Int) - 1) = (c.zones.length : Int) - 1 := w64 (by omega) (by omega)
  by_cases hlt : k < c.cells.length
  · have d1 : decide ((k : Int) < (c.cells.length : Int)) = true := by simp; omega
    have q1 : (k : Int) < (c.cells.length : Int) := by omega
    have q0 : (0 : Int) ≤ (k : Int) := by omega
    have g1 := getD_at (l := c.cells) (i := k) (d := ⟨0, 0⟩) hlt
    have B1 := FV_tb (c.cells.getD k ⟨0, 0⟩).zone 0 ((c.zones.length : Int) - 1)
    have B2 := FV_tb (c.cells.getD k ⟨0, 0⟩).cap 1 4194304
    have hq : qC c k = (inB (c.cells.getD k ⟨0, 0⟩).zone 0 ((c.zones.length : Int) - 1) && inB (c.cells.getD k ⟨0, 0⟩).cap 1 4194304) := rfl
    cases x1 : inB (c.cells.getD k ⟨0, 0⟩).zone 0 ((c.zones.length : Int) - 1) with
    | true =>
      rw [x1] at B1
      cases x2 : inB (c.cells.getD k ⟨0, 0⟩).cap 1 4194304 with
      | true =>
        rw [x2] at B2
        rw [x1, x2] at hq
        simp -implicitDefEqProofs only [go_sem, ir64_l1, eK, e1, h1, e23, e24, e25, d1, q0, q1, g1, w1, w2, vpS B1 rfl, vpS B2 rfl]
        refine .next hlt ⟨⟨?_, ?_⟩, ?_, ?_, ?_, by omega, allN_next ha hq⟩ <;> simp -implicitDefEqProofs only [go_sem, e1, h1, e23, e24, w1, eK]
      | false =>
        rw [x2] at B2
        rw [x1, x2] at hq
        simp -implicitDefEqProofs only [go_sem, ir64_l1, eK, e1, h1, e23, e24, e25, d1, q0, q1, g1, w1, w2, vpS B1 rfl, vpS B2 rfl]
        refine .ret (.inr ⟨rfl, allN_false hq _ hlt, ?_⟩)
        simp -implicitDefEqProofs only [go_sem, ]
    | false =>
      rw [x1] at B1
      rw [x1] at hq
      simp -implicitDefEqProofs only [go_sem, ir64_l1, eK, e1, h1, e23, e24, e25, d1, q0, q1, g1, w1, w2, vpS B1 rfl, vpS B2 rfl]
      refine .ret (.inr ⟨rfl, allN_false hq _ hlt, ?_⟩)
      simp -implicitDefEqProofs only [go_sem, ]
  · have : k = c.cells.length := by omega
    subst this
    have d1 : decide ((c.cells.length : Int) < (c.cells.length : Int)) = false := by simp
    simp -implicitDefEqProofs only [go_sem, ir64_l1, eK, e24, e25, d1]
    exact .exit (.inl ⟨rfl, ha, by simp -implicitDefEqProofs only [go_sem, e1], h1⟩)
theorem FV_placed (c : Conf) (hc : Lens c) (hr : 1 ≤ c.regions ∧ c.regions ≤ 4) : FV PP shF 64 [.agg (eK c)] = some (dB (placedB c)) := by
  have Z1 := FV_zones c hc.z c.reps hc.p
  have Z2 := FV_zones c hc.z c.obs hc.o
  refine FV_ok (F_ok PP64 rfl ⟨by simp [ir64], by simp⟩ ?_)
  unfold placedB
  simp -implicitDefEqProofs only [go_sem, ir64, eK]
  refine (placed_l0 c hc hr 0 _ ⟨⟨?_, ?_⟩, ?_, ?_, ?_, by omega, rfl⟩).mono ?_ <;> (try simp -implicitDefEqProofs only [go_sem, eK])
  rintro e ⟨E, H⟩ (⟨rfl, hb, e1, h1⟩ | ⟨rfl, hb, e4⟩)
  · simp only at e1 h1
    simp -implicitDefEqProofs only [go_sem, eK, e1, h1, hb]
    refine (placed_l1 c hc 0 _ ⟨⟨?_, ?_⟩, ?_, ?_, ?_, by omega, rfl⟩).mono ?_ <;> (try simp -implicitDefEqProofs only [go_sem, e1, h1, eK])
    rintro e ⟨E, H⟩ (⟨rfl, hb, e1, h1⟩ | ⟨rfl, hb, e4⟩)
    · simp only at e1 h1
      generalize zonesB c c.reps = z1 at *
      generalize zonesB c c.obs = z2 at *
      cases z1
      · simp -implicitDefEqProofs only [go_sem, eK, e1, h1, hb, vpS Z1 rfl]
      · simp -implicitDefEqProofs only [go_sem, eK, e1, h1, hb, vpS Z1 rfl, vpS Z2 rfl]
    · simp only at e4
      simp -implicitDefEqProofs only [go_sem, hb, e4]
  · simp only at e4
    simp -implicitDefEqProofs only [go_sem, hb, e4]
def versB (c : Conf) : Bool := allN (qV c) c.vers.length && firstB c
def qV2 (c : Conf) (i : Nat) : Bool := qV c i && (decide (i ≠ 0) || firstB c)
def L65 (c : Conf) (k : Nat) (w : VSt) : Prop := gt .bad w.E 6 = .sl (c.vers.map eV) ∧ gt .bad w.E 7 = dI (c.vers.length : Nat) ∧ gt .bad w.E 8 = dI (k : Nat) ∧ k ≤ c.vers.length ∧ allN (qV2 c) k = true
theorem vers_l0 (c : Conf) (hc : Lens c) : ∀ k w, L65 c k w → Ok (R PP shF 0 38 (.loop ir65_l0) w) (Qb (allN (qV2 c) c.vers.length) 2) := by
  refine Ok_up c.vers.length (L65 c) fun k w hI => ?_
  obtain ⟨E, H⟩ := w
  obtain ⟨e6, e7, e8, hk, ha⟩ := hI
  simp only at e6 e7 e8
  have hv := hc.v
  have w1 : IntKind.wrap .i64 ((k : Int) + 1) = ((k + 1 : Nat) : Int) := by rw [w64 (by omega) (by omega)]; rfl
  by_cases hlt : k < c.vers.length
  · have d1 : decide ((k : Int) < (c.vers.length : Int)) = true := by simp; omega
    have q1 : (k : Int) < (c.vers.length : Int) := by omega
    have q0 : (0 : Int) ≤ (k : Int) := by omega
    have g1 := getD_at (l := c.vers) (i := k) (d := ⟨0, 0⟩) hlt
    by_cases a1 : 0 ≤ (c.vers.getD k ⟨0, 0⟩).low
    · have b1 : decide ((c.vers.getD k ⟨0, 0⟩).low < 0) = false := decide_eq_false (by omega)
      by_cases a2 : (c.vers.getD k ⟨0, 0⟩).low ≤ (c.vers.getD k ⟨0, 0⟩).high
      · have b2 : decide ((c.vers.getD k ⟨0, 0⟩).high < (c.vers.getD k ⟨0, 0⟩).low) = false := decide_eq_false (by omega)
        by_cases a3 : (c.vers.getD k ⟨0, 0⟩).high ≤ 30
        · have b3 : decide (30 < (c.vers.getD k ⟨0, 0⟩).high) = false := decide_eq_false (by omega)
          by_cases a4 : k = 0
          · have b4 : ((k : Int) == 0) = true := by simp; exact a4
            cases hf : firstB c with
            | true =>
              have b5 : ((c.vers.getD k ⟨0, 0⟩).low != 0) = false := by rw [a4]; unfold firstB at hf; simp only [bne, hf]; rfl
              have hq : qV2 c k = true := by unfold qV2 qV; rw [decide_eq_true a1, decide_eq_true a2, decide_eq_true a3, hf, Bool.or_true]; rfl
              simp -implicitDefEqProofs only [go_sem, ir65_l0, eK, e6, e7, e8, d1, q0, q1, g1, w1, b1, b2, b3, b4, b5]
              refine .next hlt ⟨?_, ?_, ?_, by omega, allN_next ha hq⟩ <;> simp -implicitDefEqProofs only [go_sem, e6, e7, w1, eK]
            | false =>
              have b5 : ((c.vers.getD k ⟨0, 0⟩).low != 0) = true := by rw [a4]; unfold firstB at hf; simp only [bne, hf]; rfl
              have hq : qV2 c k = false := by simp [qV2, hf, a4]
              simp -implicitDefEqProofs only [go_sem, ir65_l0, eK, e6, e7, e8, d1, q0, q1, g1, w1, b1, b2, b3, b4, b5]
              refine .ret (.inr ⟨rfl, allN_false hq _ hlt, ?_⟩)
              simp -implicitDefEqProofs only [go_sem, ]
          · have b4 : ((k : Int) == 0) = false := by simp; exact a4
            have hq : qV2 c k = true := by unfold qV2 qV; rw [decide_eq_true a1, decide_eq_true a2, decide_eq_true a3, decide_eq_true (show k ≠ 0 from a4), Bool.true_or]; rfl
            simp -implicitDefEqProofs only [go_sem, ir65_l0, eK, e6, e7, e8, d1, q0, q1, g1, w1, b1, b2, b3, b4]
            refine .next hlt ⟨?_, ?_, ?_, by omega, allN_next ha hq⟩ <;> simp -implicitDefEqProofs only [go_sem, e6, e7, w1, eK]
        · have b3 : decide (30 < (c.vers.getD k ⟨0, 0⟩).high) = true := decide_eq_true (by omega)
          have hq : qV2 c k = false := by unfold qV2 qV; rw [decide_eq_false a3, Bool.and_false, Bool.false_and]
          simp -implicitDefEqProofs only [go_sem, ir65_l0, eK, e6, e7, e8, d1, q0, q1, g1, w1, b1, b2, b3]
          refine .ret (.inr ⟨rfl, allN_false hq _ hlt, ?_⟩)
          simp -implicitDefEqProofs only [go_sem, ]
      · have b2 : decide ((c.vers.getD k ⟨0, 0⟩).high < (c.vers.getD k ⟨0, 0⟩).low) = true := decide_eq_true (by omega)
        have hq : qV2 c k = false := by unfold qV2 qV; rw [decide_eq_false a2, Bool.and_false, Bool.false_and, Bool.false_and]
        simp -implicitDefEqProofs only [go_sem, ir65_l0, eK, e6, e7, e8, d1, q0, q1, g1, w1, b1, b2]
        refine .ret (.inr ⟨rfl, allN_false hq _ hlt, ?_⟩)
        simp -implicitDefEqProofs only [go_sem, ]
    · have b1 : decide ((c.vers.getD k ⟨0, 0⟩).low < 0) = true := decide_eq_true (by omega)
      have hq : qV2 c k = false := by unfold qV2 qV; rw [decide_eq_false a1, Bool.false_and, Bool.false_and, Bool.false_and]
      simp -implicitDefEqProofs only [go_sem, ir65_l0, eK, e6, e7, e8, d1, q0, q1, g1, w1, b1]
      refine .ret (.inr ⟨rfl, allN_false hq _ hlt, ?_⟩)
      simp -implicitDefEqProofs only [go_sem, ]
  · have : k = c.vers.length := by omega
    subst this
    have d1 : decide ((c.vers.length : Int) < (c.vers.length : Int)) = false := by simp
    simp -implicitDefEqProofs only [go_sem, ir65_l0, eK, e7, e8, d1]
    exact .exit (.inl ⟨rfl, ha⟩)
theorem versB_eq (c : Conf) (h : c.vers.length ≠ 0) : allN (qV2 c) c.vers.length = versB c := by
  have key : ∀ n : Nat, allN (qV2 c) (n + 1) = (allN (qV c) (n + 1) && firstB c) := by
    intro n
    induction n with
    | zero => simp [allN, qV2]
    | succ n ih =>
      show (allN (qV2 c) (n + 1) && qV2 c (n + 1)) = ((allN (qV c) (n + 1) && qV c (n + 1)) && firstB c)
      rw [ih]
      have : qV2 c (n + 1) = qV c (n + 1) := by simp [qV2]
      rw [this]
      cases allN (qV c) (n + 1) <;> cases qV c (n + 1) <;> cases firstB c <;> rfl
  obtain ⟨n, hn⟩ : ∃ n, c.vers.length = n + 1 := ⟨c.vers.length - 1, by omega⟩
  unfold versB
  rw [hn]; exact key n
theorem FV_versions (c : Conf) (hc : Lens c) (h : c.vers.length ≠ 0) : FV PP shF 65 [.agg (eK c)] = some (dB (versB c)) := by
  rw [← versB_eq c h]
  refine FV_ok (F_ok PP65 rfl ⟨by simp [ir65], by simp⟩ ?_)
  simp -implicitDefEqProofs only [go_sem, ir65, eK]
  refine (vers_l0 c hc 0 _ ⟨?_, ?_, ?_, by omega, rfl⟩).mono ?_ <;> (try simp -implicitDefEqProofs only [go_sem, eK])
  rintro e ⟨E, H⟩ (⟨rfl, hb⟩ | ⟨rfl, hb, e4⟩)
  · simp -implicitDefEqProofs only [go_sem, hb]
  · simp only at e4
    simp -implicitDefEqProofs only [go_sem, hb, e4]
def evenB (c : Conf) : Bool := (c.reps.length : Int).tmod 2 == 0
def restB (c : Conf) : Bool := inB c.blast 1 16 && inB c.lease 1 1000 && inB c.bake 0 10000
def okB4 (c : Conf) : Bool := !evenB c && placedB c && versB c && restB c
def validN (c : Conf) : Int := if limB c = true then (if okB4 c = true then 0 else 1) else 2
theorem limB_facts {c : Conf} (h : limB c = true) : (1 ≤ c.regions ∧ c.regions ≤ 4) ∧ c.vers.length ≠ 0 := by
  unfold limB inB at h
  simp only [Bool.and_eq_true, decide_eq_true_eq] at h
  obtain ⟨⟨⟨⟨⟨⟨h1, _⟩, _⟩, h4⟩, _⟩, _⟩, _⟩ := h
  exact ⟨h1, by omega⟩
theorem FV_Valid (c : Conf) (hc : Lens c) : FV PP shF 30 [.agg (eK c)] = some (dI (validN c)) := by
  refine FV_ok (F_ok PP30 rfl ⟨by simp [ir30], by simp⟩ ?_)
  have B1 := FV_sized c
  have T1 := FV_tb c.blast 1 16
  have T2 := FV_tb c.lease 1 1000
  have T3 := FV_tb c.bake 0 10000
  unfold validN
  cases hl : limB c with
  | false =>
    rw [hl] at B1
    simp -implicitDefEqProofs only [go_sem, ir30, eK, vpS B1 rfl]
  | true =>
    rw [hl] at B1
    have B2 := FV_placed c hc (limB_facts hl).1
    have B3 := FV_versions c hc (limB_facts hl).2
    unfold okB4 restB
    have he : ((c.reps.length : Int).tmod 2 == 0) = evenB c := rfl
    generalize evenB c = ev at *
    generalize placedB c = pl at *
    generalize versB c = ve at *
    generalize inB c.blast 1 16 = r1 at *
    generalize inB c.lease 1 1000 = r2 at *
    generalize inB c.bake 0 10000 = r3 at *
    cases ev
    · cases pl
      · simp -implicitDefEqProofs only [go_sem, ir30, eK, vpS B1 rfl, he, vpS B2 rfl]
      · cases ve
        · simp -implicitDefEqProofs only [go_sem, ir30, eK, vpS B1 rfl, he, vpS B2 rfl, vpS B3 rfl]
        · cases r1
          · simp -implicitDefEqProofs only [go_sem, ir30, eK, vpS B1 rfl, he, vpS B2 rfl, vpS B3 rfl, vpS T1 rfl]
          · cases r2
            · simp -implicitDefEqProofs only [go_sem, ir30, eK, vpS B1 rfl, he, vpS B2 rfl, vpS B3 rfl, vpS T1 rfl, vpS T2 rfl]
            · cases r3
              · simp -implicitDefEqProofs only [go_sem, ir30, eK, vpS B1 rfl, he, vpS B2 rfl, vpS B3 rfl, vpS T1 rfl, vpS T2 rfl, vpS T3 rfl]
              · simp -implicitDefEqProofs only [go_sem, ir30, eK, vpS B1 rfl, he, vpS B2 rfl, vpS B3 rfl, vpS T1 rfl, vpS T2 rfl, vpS T3 rfl]
    · simp -implicitDefEqProofs only [go_sem, ir30, eK, vpS B1 rfl, he]
def rightB (W : Int) (t : Ten) : Bool := inB t.load 1 65536 && inB t.shadow 0 t.load && inB t.prio 0 9 && inB t.lag (-1) 1000 && (decide (1 ≤ t.allowed) && decide (t.allowed < W)) && inB t.group 0 32
def wid (c : Conf) : Int := 2 ^ c.regions.toNat
theorem wid_eq {R : Int} (h : 1 ≤ R ∧ R ≤ 4) : IntKind.wrap .i64 (1 * 2 ^ min R.toNat 64) = 2 ^ R.toNat ∧ (2 : Int) ^ R.toNat ≤ 16 ∧ (2 : Int) ≤ 2 ^ R.toNat := by
  obtain ⟨h1, h2⟩ := h
  obtain rfl | rfl | rfl | rfl : R = 1 ∨ R = 2 ∨ R = 3 ∨ R = 4 := by omega
  all_goals exact ⟨rfl, by decide, by decide⟩
theorem FV_right (c : Conf) (hr : 1 ≤ c.regions ∧ c.regions ≤ 4) (t : Ten) : FV PP shF 114 [.agg (eK c), .agg (eT t)] = some (dB (rightB (wid c) t)) := by
  obtain ⟨hs, hw1, hw2⟩ := wid_eq hr
  have nr : ¬ c.regions < 0 := by omega
  have w1 : IntKind.wrap .i64 (wid c - 1) = wid c - 1 := by unfold wid; exact w64 (by omega) (by omega)
  rw [show (2 : Int) ^ c.regions.toNat = wid c from rfl] at hs hw1 hw2
  have B1 := FV_between t.load 1 65536
  have B2 := FV_between t.shadow 0 t.load
  have B3 := FV_between t.prio 0 9
  have B4 := FV_between t.lag (-1) 1000
  have B5 := FV_between t.allowed 1 (wid c - 1)
  have B6 := FV_between t.group 0 32
  have h5 : (decide (1 ≤ t.allowed) && decide (t.allowed ≤ wid c - 1)) = (decide (1 ≤ t.allowed) && decide (t.allowed < wid c)) := by
    congr 1
    rw [Bool.eq_iff_iff]
    simp only [decide_eq_true_eq]
    omega
  rw [h5] at B5
  refine FV_ok (F_ok PP114 rfl ⟨by simp [ir114], by simp⟩ ?_)
  unfold rightB inB
  generalize (decide (1 ≤ t.load) && decide (t.load ≤ 65536)) = r1 at *
  generalize (decide (0 ≤ t.shadow) && decide (t.shadow ≤ t.load)) = r2 at *
  generalize (decide (0 ≤ t.prio) && decide (t.prio ≤ 9)) = r3 at *
  generalize (decide (-1 ≤ t.lag) && decide (t.lag ≤ 1000)) = r4 at *
  generalize (decide (1 ≤ t.allowed) && decide (t.allowed < wid c)) = r5 at *
  generalize (decide (0 ≤ t.group) && decide (t.group ≤ 32)) = r6 at *
  cases r1
  · simp -implicitDefEqProofs only [go_sem, ir114, eK, nr, hs, w1, vpS B1 rfl]
  cases r2
  · simp -implicitDefEqProofs only [go_sem, ir114, eK, nr, hs, w1, vpS B1 rfl, vpS B2 rfl]
  cases r3
  · simp -implicitDefEqProofs only [go_sem, ir114, eK, nr, hs, w1, vpS B1 rfl, vpS B2 rfl, vpS B3 rfl]
  cases r4
  · simp -implicitDefEqProofs only [go_sem, ir114, eK, nr, hs, w1, vpS B1 rfl, vpS B2 rfl, vpS B3 rfl, vpS B4 rfl]
  cases r5
  · simp -implicitDefEqProofs only [go_sem, ir114, eK, nr, hs, w1, vpS B1 rfl, vpS B2 rfl, vpS B3 rfl, vpS B4 rfl, vpS B5 rfl]
  cases r6
  · simp -implicitDefEqProofs only [go_sem, ir114, eK, nr, hs, w1, vpS B1 rfl, vpS B2 rfl, vpS B3 rfl, vpS B4 rfl, vpS B5 rfl, vpS B6 rfl]
  simp -implicitDefEqProofs only [go_sem, ir114, eK, nr, hs, w1, vpS B1 rfl, vpS B2 rfl, vpS B3 rfl, vpS B4 rfl, vpS B5 rfl, vpS B6 rfl]
def qT (c : Conf) (i : Nat) : Bool := rightB (wid c) (c.tens.getD i ⟨0, 0, 0, 0, 0, 0, false⟩)
def validT (c : Conf) : Int := if validN c = 0 then (if allN (qT c) c.tens.length = true then 0 else 1) else validN c
theorem validN_lim {c : Conf} (h : validN c = 0) : limB c = true := by
  unfold validN at h
  cases hl : limB c with
  | true => rfl
  | false => rw [hl] at h; simp at h
def L103 (c : Conf) (k : Nat) (w : VSt) : Prop := gt .bad w.E 1 = .mp 1 1 0 0 ∧ hg w.H 1 = ⟨1, 0, true, [eK c]⟩ ∧ gt .bad w.E 12 = .sl (c.tens.map eT) ∧ gt .bad w.E 13 = dI (c.tens.length : Nat) ∧ gt .bad w.E 14 = dI (k : Nat) ∧ k ≤ c.tens.length ∧ allN (qT c) k = true
theorem tvalid_l0 (c : Conf) (hc : Lens c) (hr : 1 ≤ c.regions ∧ c.regions ≤ 4) : ∀ k w, L103 c k w → Ok (R PP shF 0 23 (.loop ir103_l0) w) (fun e w => (e = .exit 0 ∧ allN (qT c) c.tens.length = true) ∨ (e = .ret ∧ allN (qT c) c.tens.length = false ∧ gt .bad w.E 2 = dI 1)) := by
  refine Ok_up c.tens.length (L103 c) fun k w hI => ?_
  obtain ⟨E, H⟩ := w
  obtain ⟨e1, h1, e12, e13, e14, hk, ha⟩ := hI
  simp only at e1 h1 e12 e13 e14
  have ht := hc.t
  have w1 : IntKind.wrap .i64 ((k : Int) + 1) = ((k + 1 : Nat) : Int) := by rw [w64 (by omega) (by omega)]; rfl
  by_cases hlt : k < c.tens.length
  · have d1 : decide ((k : Int) < (c.tens.length : Int)) = true := by simp; omega
    have q1 : (k : Int) < (c.tens.length : Int) := by omega
    have q0 : (0 : Int) ≤ (k : Int) := by omega
    have g1 := getD_at (l := c.tens) (i := k) (d := ⟨0, 0, 0, 0, 0, 0, false⟩) hlt
    have B := FV_right c hr (c.tens.getD k ⟨0, 0, 0, 0, 0, 0, false⟩)
    rw [show rightB (wid c) (c.tens.getD k ⟨0, 0, 0, 0, 0, 0, false⟩) = qT c k from rfl] at B
    cases hb : qT c k with
    | true =>
      rw [hb] at B
      simp -implicitDefEqProofs only [go_sem, ir103_l0, eK, eT, e1, h1, e12, e13, e14, d1, q0, q1, g1, w1, vpS B rfl]
      refine .next hlt ⟨?_, ?_, ?_, ?_, ?_, by omega, allN_next ha hb⟩ <;> simp -implicitDefEqProofs only [go_sem, e1, h1, e12, e13, w1, eK]
    | false =>
      rw [hb] at B
      simp -implicitDefEqProofs only [go_sem, ir103_l0, eK, eT, e1, h1, e12, e13, e14, d1, q0, q1, g1, w1, vpS B rfl]
      refine .ret (.inr ⟨rfl, allN_false hb _ hlt, ?_⟩)
      simp -implicitDefEqProofs only [go_sem, ]
  · have : k = c.tens.length := by omega
    subst this
    have d1 : decide ((c.tens.length : Int) < (c.tens.length : Int)) = false := by simp
    simp -implicitDefEqProofs only [go_sem, ir103_l0, eK, e13, e14, d1]
    exact .exit (.inl ⟨rfl, ha⟩)
theorem FV_tValid (c : Conf) (hc : Lens c) : FV PP shF 103 [.agg (eK c)] = some (dI (validT c)) := by
  have V := FV_Valid c hc
  refine FV_ok (F_ok PP103 rfl ⟨by simp [ir103], by simp⟩ ?_)
  unfold validT
  by_cases h0 : validN c = 0
  · obtain ⟨hr, _⟩ := limB_facts (validN_lim h0)
    rw [h0] at V
    have n0 : ((0 : Int) != 0) = false := rfl
    simp -implicitDefEqProofs only [go_sem, ir103, eK, vpS V rfl, h0, n0]
    refine (tvalid_l0 c hc hr 0 _ ⟨?_, ?_, ?_, ?_, ?_, by omega, rfl⟩).mono ?_ <;> (try simp -implicitDefEqProofs only [go_sem, eK])
    rintro e ⟨E, H⟩ (⟨rfl, hb⟩ | ⟨rfl, hb, e2⟩)
    · simp -implicitDefEqProofs only [go_sem, hb]
    · simp only at e2
      simp -implicitDefEqProofs only [go_sem, hb, e2]
  · have d1 : (validN c != 0) = true := by simp [h0]
    simp -implicitDefEqProofs only [go_sem, ir103, eK, vpS V rfl, d1, h0]
def inC (c : Conf) (n : Int) : Bool := decide (0 ≤ n) && decide (n < c.cells.length)
def plcB (c : Conf) (x : Plc) : Bool := ((x.home == -1) || inC c x.home) && ((x.sby == -1) || inC c x.sby)
def fitB (c : Conf) (ps : List Plc) : Bool := (validT c == 0) && ((ps.length : Int) == (c.tens.length : Int)) && ps.all (plcB c)
def L90 (p : Prob) (ps : List Plc) (i : Nat) (w : VSt) : Prop := gt .bad w.E 2 = .mp 2 1 0 0 ∧ hg w.H 2 = ⟨1, 0, true, [eQ p]⟩ ∧ gt .bad w.E 20 = .sl (ps.map eP) ∧ gt .bad w.E 21 = dI (ps.length : Nat) ∧ gt .bad w.E 22 = dI (i : Nat) ∧ i ≤ ps.length ∧ ∀ j, j < i → plcB p.conf (plc ps j) = true
theorem fit_l0 (p : Prob) (ps : List Plc) (hps : ps.length ≤ 1000) : ∀ i w, L90 p ps i w → Ok (R PP shF 0 49 (.loop ir90_l0) w) (fun e w => (e = .exit 0 ∧ ∀ j, j < ps.length → plcB p.conf (plc ps j) = true) ∨ (e = .ret ∧ gt .bad w.E 4 = dB false ∧ ∃ j, j < ps.length ∧ plcB p.conf (plc ps j) = false)) := by
  refine Ok_up ps.length _ fun i w hI => ?_
  obtain ⟨E, H⟩ := w
  obtain ⟨e2, h2, e20, e21, e22, hk, hall⟩ := hI
  simp only at e2 h2 e20 e21 e22
  have w1 : IntKind.wrap .i64 ((i : Int) + 1) = ((i + 1 : Nat) : Int) := by rw [w64 (by omega) (by omega)]; rfl
  by_cases hlt : i < ps.length
  · have d1 : decide ((i : Int) < (ps.length : Int)) = true := decide_eq_true (by omega)
    have q0 : (0 : Int) ≤ (i : Int) := by omega
    have q1 : (i : Int) < (ps.length : Int) := by omega
    have g1 : ps[i]? = some (plc ps i) := getD_at hlt
    have C1 := FV_cell p (plc ps i).home
    have C2 := FV_cell p (plc ps i).sby
    have nx : plcB p.conf (plc ps i) = true → ∀ j, j < i + 1 → plcB p.conf (plc ps j) = true := fun h j hj => by
      by_cases hji : j = i
      · rw [hji]; exact h
      · exact hall j (by omega)
    have hp : plcB p.conf (plc ps i) = ((((plc ps i).home == -1) || (decide (0 ≤ (plc ps i).home) && decide ((plc ps i).home < p.conf.cells.length))) && (((plc ps i).sby == -1) || (decide (0 ≤ (plc ps i).sby) && decide ((plc ps i).sby < p.conf.cells.length)))) := rfl
    generalize hb : plcB p.conf (plc ps i) = pb at *
    cases a1 : ((plc ps i).home == -1) with
    | true =>
      have a1' : ((plc ps i).home != -1) = false := by unfold bne; rw [a1]; rfl
      cases b1 : ((plc ps i).sby == -1) with
      | true =>
        have b1' : ((plc ps i).sby != -1) = false := by unfold bne; rw [b1]; rfl
        simp -implicitDefEqProofs only [go_sem, ir90_l0, eQ, e2, h2, e20, e21, e22, d1, q0, q1, g1, w1, a1', b1']
        refine .next hlt ⟨?_, ?_, ?_, ?_, ?_, by omega, nx (by rw [hp, a1, b1]; rfl)⟩ <;> simp -implicitDefEqProofs only [go_sem, eQ, e2, h2, e20, e21, w1]
      | false =>
        have b1' : ((plc ps i).sby != -1) = true := by unfold bne; rw [b1]; rfl
        cases b2 : (decide (0 ≤ (plc ps i).sby) && decide ((plc ps i).sby < (p.conf.cells.length : Int))) with
        | true =>
          rw [b2] at C2
          simp -implicitDefEqProofs only [go_sem, ir90_l0, eQ, e2, h2, e20, e21, e22, d1, q0, q1, g1, w1, a1', b1', vpS C2 rfl]
          refine .next hlt ⟨?_, ?_, ?_, ?_, ?_, by omega, nx (by rw [hp, a1, b1, b2]; rfl)⟩ <;> simp -implicitDefEqProofs only [go_sem, eQ, e2, h2, e20, e21, w1]
        | false =>
          rw [b2] at C2
          simp -implicitDefEqProofs only [go_sem, ir90_l0, eQ, e2, h2, e20, e21, e22, d1, q0, q1, g1, w1, a1', b1', vpS C2 rfl]
          exact .ret (.inr ⟨rfl, by simp -implicitDefEqProofs only [go_sem, ], i, hlt, by rw [hb, hp, a1, b1, b2]; rfl⟩)
    | false =>
      have a1' : ((plc ps i).home != -1) = true := by unfold bne; rw [a1]; rfl
      cases a2 : (decide (0 ≤ (plc ps i).home) && decide ((plc ps i).home < (p.conf.cells.length : Int))) with
      | false =>
        rw [a2] at C1
        simp -implicitDefEqProofs only [go_sem, ir90_l0, eQ, e2, h2, e20, e21, e22, d1, q0, q1, g1, w1, a1', vpS C1 rfl]
        exact .ret (.inr ⟨rfl, by simp -implicitDefEqProofs only [go_sem, ], i, hlt, by rw [hb, hp, a1, a2]; rfl⟩)
      | true =>
        rw [a2] at C1
        cases b1 : ((plc ps i).sby == -1) with
        | true =>
          have b1' : ((plc ps i).sby != -1) = false := by unfold bne; rw [b1]; rfl
          simp -implicitDefEqProofs only [go_sem, ir90_l0, eQ, e2, h2, e20, e21, e22, d1, q0, q1, g1, w1, a1', b1', vpS C1 rfl]
          refine .next hlt ⟨?_, ?_, ?_, ?_, ?_, by omega, nx (by rw [hp, a1, a2, b1]; rfl)⟩ <;> simp -implicitDefEqProofs only [go_sem, eQ, e2, h2, e20, e21, w1]
        | false =>
          have b1' : ((plc ps i).sby != -1) = true := by unfold bne; rw [b1]; rfl
          cases b2 : (decide (0 ≤ (plc ps i).sby) && decide ((plc ps i).sby < (p.conf.cells.length : Int))) with
          | true =>
            rw [b2] at C2
            simp -implicitDefEqProofs only [go_sem, ir90_l0, eQ, e2, h2, e20, e21, e22, d1, q0, q1, g1, w1, a1', b1', vpS C1 rfl, vpS C2 rfl]
            refine .next hlt ⟨?_, ?_, ?_, ?_, ?_, by omega, nx (by rw [hp, a1, a2, b1, b2]; rfl)⟩ <;> simp -implicitDefEqProofs only [go_sem, eQ, e2, h2, e20, e21, w1]
          | false =>
            rw [b2] at C2
            simp -implicitDefEqProofs only [go_sem, ir90_l0, eQ, e2, h2, e20, e21, e22, d1, q0, q1, g1, w1, a1', b1', vpS C1 rfl, vpS C2 rfl]
            exact .ret (.inr ⟨rfl, by simp -implicitDefEqProofs only [go_sem, ], i, hlt, by rw [hb, hp, a1, a2, b1, b2]; rfl⟩)
  · have hkl : i = ps.length := by omega
    have d1 : decide ((i : Int) < (ps.length : Int)) = false := decide_eq_false (by omega)
    simp -implicitDefEqProofs only [go_sem, ir90_l0, e21, e22, d1]
    subst hkl
    exact .exit (.inl ⟨rfl, hall⟩)
theorem all_plc {c : Conf} {ps : List Plc} : (ps.all (plcB c) = true ↔ ∀ j, j < ps.length → plcB c (plc ps j) = true) := by
  rw [List.all_eq_true]
  constructor
  · intro h j hj; exact h _ (List.mem_of_getElem? (getD_at (l := ps) (i := j) (d := ⟨0, 0⟩) hj))
  · intro h x hx
    obtain ⟨j, hj, rfl⟩ := List.mem_iff_getElem.1 hx
    have := h j hj
    unfold plc at this
    rwa [List.getD_eq_getElem?_getD, List.getElem?_eq_getElem hj] at this
theorem FV_Fit (p : Prob) (hc : Lens p.conf) (ps : List Plc) (hps : ps.length ≤ 1000) : FV PP shF 90 [.agg (eQ p), .sl (ps.map eP)] = some (dB (fitB p.conf ps)) := by
  refine FV_ok (F_ok PP90 rfl ⟨by simp [ir90], by simp⟩ ?_)
  have V := FV_tValid p.conf hc
  unfold fitB
  cases v : (validT p.conf == 0) with
  | false =>
    have v' : (validT p.conf != 0) = true := by unfold bne; rw [v]; rfl
    simp -implicitDefEqProofs only [go_sem, ir90, eQ, eK, vpS V rfl, v']
  | true =>
    have v' : (validT p.conf != 0) = false := by unfold bne; rw [v]; rfl
    cases l : ((ps.length : Int) == (p.conf.tens.length : Int)) with
    | false =>
      have l' : ((ps.length : Int) != (p.conf.tens.length : Int)) = true := by unfold bne; rw [l]; rfl
      simp -implicitDefEqProofs only [go_sem, ir90, eQ, eK, vpS V rfl, v', l']
    | true =>
      have l' : ((ps.length : Int) != (p.conf.tens.length : Int)) = false := by unfold bne; rw [l]; rfl
      simp -implicitDefEqProofs only [go_sem, ir90, eQ, eK, vpS V rfl, v', l']
      refine (fit_l0 p ps hps 0 _ ⟨?_, ?_, ?_, ?_, ?_, by omega, fun j hj => by omega⟩).mono ?_ <;> (try simp -implicitDefEqProofs only [go_sem, eQ])
      rintro e ⟨E, H⟩ (⟨rfl, h⟩ | ⟨rfl, e4, j, hj, h⟩)
      · rw [all_plc.2 h]
        simp -implicitDefEqProofs only [go_sem, ]
      · have : ps.all (plcB p.conf) = false := by
          cases ha : ps.all (plcB p.conf) with
          | false => rfl
          | true => rw [all_plc.1 ha j hj] at h; simp at h
        rw [this]
        simp only at e4
        simp -implicitDefEqProofs only [go_sem, e4]
theorem FV_run (k : Nat) {g : Nat} (h : (vmach PP shF k g [] [] 0).map (·.1) = some (dB true)) : FV PP shF g [] = some (dB true) := by
  simp only [Option.map_eq_some_iff] at h
  obtain ⟨⟨d, H⟩, h1, h2⟩ := h
  simp only at h2; subst h2
  exact FV_B (F_of k h1)
theorem allN_true {q : Nat → Bool} : ∀ n : Nat, (∀ i, i < n → q i = true) → allN q n = true
  | 0, _ => rfl
  | n + 1, h => by simp only [allN, allN_true n (fun i hi => h i (by omega)), h n (by omega), Bool.and_self]
theorem inB_true {n lo hi : Int} (h : lo ≤ n ∧ n ≤ hi) : inB n lo hi = true := by unfold inB; rw [decide_eq_true h.1, decide_eq_true h.2]; rfl
theorem ConfOk.valid {c : Conf} (hc : ConfOk c) : validN c = 0 := by
  have r0 := hc.r0
  have r1 := hc.r1
  have z0 := hc.z0
  have z1 := hc.z1
  have c0 := hc.c0
  have c1 := hc.c1
  have t1 := hc.t1
  have v1 := hc.v1
  have v0 := List.length_pos_iff.2 hc.v0
  have o0 := hc.o0
  have o1 := hc.o1
  have hl : limB c = true := by
    unfold limB
    rw [inB_true ⟨by omega, by omega⟩, inB_true ⟨by omega, by omega⟩, inB_true ⟨by omega, by omega⟩, inB_true ⟨by omega, by omega⟩, inB_true (n := (c.reps.length : Int)) ⟨by rcases hc.ps with h | h <;> omega, by rcases hc.ps with h | h <;> omega⟩, inB_true ⟨by omega, by omega⟩, decide_eq_true (by omega)]
    rfl
  have he : evenB c = false := by
    unfold evenB
    rcases hc.ps with h | h <;> rw [h] <;> rfl
  have hz : ∀ l : List Int, (∀ z, z ∈ l → 0 ≤ z ∧ z < (c.zones.length : Int)) → zonesB c l = true := fun l h => allN_true _ fun i hi => by
    have g := getD_at (l := l) (i := i) (d := 0) hi
    have := h _ (List.mem_of_getElem? g)
    exact inB_true ⟨by omega, by omega⟩
  have hp : placedB c = true := by
    unfold placedB
    rw [hz _ hc.pz, hz _ hc.oz, allN_true _ (fun i hi => ?_), allN_true _ (fun i hi => ?_)]
    · rfl
    · have g := getD_at (l := c.cells) (i := i) (d := ⟨0, 0⟩) hi
      have := hc.cs _ (List.mem_of_getElem? g)
      unfold qC
      rw [inB_true ⟨by omega, by omega⟩, inB_true ⟨by omega, by omega⟩]; rfl
    · have g := getD_at (l := c.zones) (i := i) (d := 0) hi
      have := hc.zs _ (List.mem_of_getElem? g)
      exact inB_true ⟨by omega, by omega⟩
  have hv : versB c = true := by
    unfold versB
    have g0 := getD_at (l := c.vers) (i := 0) (d := ⟨0, 0⟩) v0
    have hf : firstB c = true := by
      unfold firstB
      rw [hc.vh (c.vers.getD 0 ⟨0, 0⟩) (by rw [← g0, List.head?_eq_getElem?])]
      rfl
    rw [hf, allN_true _ (fun i hi => ?_)]
    · rfl
    · have g := getD_at (l := c.vers) (i := i) (d := ⟨0, 0⟩) hi
      have := hc.vs _ (List.mem_of_getElem? g)
      unfold qV
      have x1 := this.l1
      have x2 := this.h1
      rw [decide_eq_true this.l0, decide_eq_true this.h0, decide_eq_true (by omega)]
      rfl
  have hr : restB c = true := by
    unfold restB
    have := hc.b0
    have := hc.b1
    have := hc.l0
    have := hc.l1
    have := hc.k0
    have := hc.k1
    rw [inB_true ⟨by omega, by omega⟩, inB_true ⟨by omega, by omega⟩, inB_true ⟨by omega, by omega⟩]; rfl
  unfold validN okB4
  rw [hl, he, hp, hv, hr]; rfl
theorem FV_awake17 : FV PP shF 89 [] = some (dB true) := FV_run 60 (by kernel_rfl)
theorem ConfOk.validT {c : Conf} (hc : ConfOk c) : Cp.validT c = 0 := by
  have r0 := hc.r0
  have r1 := hc.r1
  unfold Cp.validT
  rw [hc.valid, if_pos rfl, allN_true _ (fun i hi => ?_)]
  · rfl
  · have g := getD_at (l := c.tens) (i := i) (d := ⟨0, 0, 0, 0, 0, 0, false⟩) hi
    have h := hc.ts _ (List.mem_of_getElem? g)
    have a0 := h.l0
    have a1 := h.l1
    have a2 := h.s0
    have a3 := h.s1
    have a4 := h.p0
    have a5 := h.p1
    have a6 := h.g0
    have a7 := h.g1
    have a8 := h.a0
    have a9 := h.a1
    have b0 := h.u0
    have b1 := h.u1
    have hw : allR c.regions < wid c := by
      unfold wid
      obtain hh | hh | hh : c.regions = 1 ∨ c.regions = 2 ∨ c.regions = 3 := by omega
      all_goals (rw [hh]; decide)
    unfold qT rightB
    rw [inB_true ⟨by omega, by omega⟩, inB_true ⟨by omega, by omega⟩, inB_true ⟨by omega, by omega⟩, inB_true ⟨by omega, by omega⟩, inB_true ⟨by omega, by omega⟩, decide_eq_true (by omega), decide_eq_true (by omega)]
    rfl
theorem fit_iff {c : Conf} (hc : ConfOk c) (ps : List Plc) : fitB c ps = true ↔ FitP c ps := by
  unfold fitB FitP
  rw [hc.validT]
  simp only [beq_self_eq_true, Bool.true_and, Bool.and_eq_true, beq_iff_eq]
  constructor
  · rintro ⟨h1, h2⟩
    refine ⟨by omega, fun x hx => ?_⟩
    have := List.all_eq_true.1 h2 x hx
    unfold plcB inC at this
    simp at this
    exact ⟨by omega, by omega, by omega, by omega⟩
  · rintro ⟨h1, h2⟩
    refine ⟨by omega, List.all_eq_true.2 fun x hx => ?_⟩
    have := h2 x hx
    have a := this.h0; have b := this.h1; have d := this.s0; have e := this.s1
    unfold plcB inC
    simp
    omega
theorem FVF_Partial (p : Prob) (hc : ConfOk p.conf) (ps : List Plc) (hps : ps.length ≤ 1000) : FVF PP shF 93 [.agg (eQ p), .sl (ps.map eP)] (.sl ((if fitB p.conf ps = true then partL p ps else []).map eB)) := by
  refine FVF_ok (F_ok PP93 rfl ⟨by simp [ir93], by simp⟩ ?_)
  have K := FV_Fit p hc.lens ps hps
  cases hf : fitB p.conf ps with
  | false =>
    rw [hf] at K
    simp -implicitDefEqProofs only [go_sem, ir93, eQ, vpS K rfl]
    rfl
  | true =>
    rw [hf] at K
    have hfit := (fit_iff hc ps).1 hf
    have A : ∀ (H : VHeap) (b : Nat), hg H 13 = ⟨1, 0, true, [fdr p ps (.lit (.slice none 0 0))]⟩ → H.length ≤ b → 20 ≤ b → F PP shF 105 [.mp 13 1 0 0] H b = some (.tup [], FH 105 [.mp 13 1 0 0] H b) ∧ ∃ bo ov, hg (FH 105 [.mp 13 1 0 0] H b) 13 = ⟨1, 0, true, [fdr p ps ov]⟩ ∧ SlB (FH 105 [.mp 13 1 0 0] H b) bo 5 ((partL p ps).map eB) ov := by
      intro H b h1 h2 h3
      have := FH_eq (partial_ok p hc ps hfit [] (by simp) H b 13 1 0 (.lit (.slice none 0 0)) h2 h1 SlB.nil (by decide) (by omega) (by omega))
      obtain ⟨e1, bo, ov, c1, c2, _⟩ := this
      exact ⟨e1, bo, ov, c1, by simpa using c2⟩
    have A1 := fun H b h1 h2 h3 => (A H b h1 h2 h3).1
    simp -implicitDefEqProofs only [go_sem, ir93, eQ, vpS K rfl, A1]
    obtain ⟨_, bo, ov, c1, c2⟩ := A (hs (hs [] 2 ⟨1, 0, true, [eQ p]⟩) 13 ⟨1, 0, true, [fdr p ps (.lit (.slice none 0 0))]⟩) (max (max (max 0 3) 14) 20) (by simp -implicitDefEqProofs only [go_sem, ]) (by simp [hs_len]) (by decide)
    generalize FH 105 _ _ _ = H' at c1 c2 ⊢
    simp -implicitDefEqProofs only [go_sem, c1]
    exact ⟨c2.frz (by decide) (closed_eB _) 5, c2.fresh (by decide) (lits_eB _) 4⟩
theorem w0L : ∀ n : Nat, n ≤ 1000000 → IntKind.wrap .i64 ((n : Int) + 1) = ((n + 1 : Nat) : Int) := fun n h => by rw [w64 (by omega) (by omega)]; rfl
theorem getD_mem {α : Type} {l : List α} {i : Nat} {d : α} (h : i < l.length) : l.getD i d ∈ l := by
  rw [List.getD_eq_getElem?_getD, List.getElem?_eq_getElem h]; exact List.getElem_mem h
def LeL (l m : List Int) : Prop := l.length = m.length ∧ ∀ j : Nat, l.getD j 0 ≤ m.getD j 0
theorem LeL.refl (l : List Int) : LeL l l := ⟨rfl, fun _ => Int.le_refl _⟩
theorem addAt_get (l : List Int) (i x : Int) (j : Nat) : (addAt l i x).getD j 0 = if (j : Int) = i ∧ i < l.length then l.getD j 0 + x else l.getD j 0 := by
  unfold addAt
  by_cases h : 0 ≤ i ∧ i < l.length
  · rw [if_pos h]
    by_cases hj : (j : Int) = i
    · have e : i.toNat = j := by omega
      rw [if_pos ⟨hj, h.2⟩, e, List.getD_eq_getElem?_getD, List.getElem?_set_self (by omega)]; rfl
    · rw [if_neg (fun a => hj a.1), List.getD_eq_getElem?_getD, List.getElem?_set_ne (by omega), ← List.getD_eq_getElem?_getD]
  · rw [if_neg h, if_neg (by omega)]
theorem LeL.add {l m : List Int} (h : LeL l m) (i x : Int) : LeL (addAt l i x) (addAt m i x) := by
  refine ⟨by rw [addAt_len, addAt_len]; exact h.1, fun j => ?_⟩
  rw [addAt_get, addAt_get, h.1]
  have := h.2 j
  split <;> omega
theorem LeL.ge {l m : List Int} (h : LeL l m) (i x : Int) (hx : 0 ≤ x) : LeL l (addAt m i x) := by
  refine ⟨by rw [addAt_len]; exact h.1, fun j => ?_⟩
  rw [addAt_get]
  have := h.2 j
  split <;> omega
theorem addAt_neg (l : List Int) (x : Int) : addAt l (-1) x = l := by unfold addAt; rw [if_neg (by omega)]
/-- Some places are open. -/
def Opn (qs ps : List Plc) : Prop := qs.length = ps.length ∧ ∀ k : Nat, k < ps.length → plc qs k = plc ps k ∨ plc qs k = ⟨-1, -1⟩
theorem Opn.set {ps : List Plc} (i : Nat) : Opn (ps.set i ⟨-1, -1⟩) ps := by
  refine ⟨by simp, fun k hk => ?_⟩
  unfold plc
  by_cases h : i = k
  · subst h; right; rw [List.getD_eq_getElem?_getD, List.getElem?_set_self hk]; rfl
  · left; rw [List.getD_eq_getElem?_getD, List.getElem?_set_ne h, ← List.getD_eq_getElem?_getD]
theorem insideB_neg (c : Conf) (r : Int) : insideB c (-1) r = false := by
  have : regOf c (-1) = -1 := by
    unfold regOf zoneOf regZ
    rw [if_neg (by omega)]; try rw [if_neg (by omega)]
  unfold insideB; rw [this]; rfl
theorem all_eP (L : List Plc) : (L.map eP).all (fun el => el.length == 2) = true := by simp [List.all_eq_true, eP]
theorem one_eP (L : List Plc) : (L.map eP).all (fun el => el.length == 2 && el.all oneD) = true := by simp [List.all_eq_true, eP, oneD]
def fil (a b : Plc) : Plc := ⟨if a.home < 0 then b.home else a.home, if a.sby < 0 then b.sby else a.sby⟩
def xtL (A B : List Plc) : Nat → List Plc
  | 0 => A
  | k + 1 => (xtL A B k).set k (fil (plc A k) (plc B k))
theorem xtL_len (A B : List Plc) : ∀ k, (xtL A B k).length = A.length
  | 0 => rfl
  | k + 1 => by simp [xtL, xtL_len A B k]
theorem xtL_get (A B : List Plc) : ∀ k j : Nat, j < A.length → plc (xtL A B k) j = if j < k then fil (plc A j) (plc B j) else plc A j
  | 0, j, h => by simp [xtL]
  | k + 1, j, h => by
    have ih := xtL_get A B k j h
    have hl := xtL_len A B k
    by_cases e : k = j
    · subst e
      rw [if_pos (by omega)]
      simp only [xtL]; unfold plc
      rw [List.getD_eq_getElem?_getD, List.getElem?_set_self (by omega)]; rfl
    · have : plc (xtL A B (k + 1)) j = plc (xtL A B k) j := by
        simp only [xtL]; unfold plc
        rw [List.getD_eq_getElem?_getD, List.getElem?_set_ne e, ← List.getD_eq_getElem?_getD]
      rw [this, ih]
      by_cases h2 : j < k
      · rw [if_pos h2, if_pos (by omega)]
      · rw [if_neg h2, if_neg (by omega)]
def L101 (A B : List Plc) (b : Nat) (k : Nat) (w : VSt) : Prop := gt .bad w.E 1 = .sl (B.map eP) ∧ gt .bad w.E 5 = .ms b 1 0 A.length A.length ∧ hg w.H b = ⟨1, 2, true, (xtL A B k).map eP⟩ ∧ gt .bad w.E 6 = dI (k : Nat) ∧ k ≤ A.length
theorem set_eP (L : List Plc) (k : Nat) (a b : Int) : (L.map eP).set k [dI a, dI b] = (L.set k ⟨a, b⟩).map eP := by rw [List.map_set]
theorem ext_l0 (A B : List Plc) (hA : A.length ≤ 1000) (hB : B.length = A.length) (b : Nat) : ∀ k w, L101 A B b k w → Ok (R PP shF 0 53 (.loop ir101_l0) w) (fun e w => e = .exit 0 ∧ gt .bad w.E 5 = .ms b 1 0 A.length A.length ∧ hg w.H b = ⟨1, 2, true, (xtL A B A.length).map eP⟩) := by
  refine Ok_up A.length (L101 A B b) fun k w hI => ?_
  obtain ⟨E, H⟩ := w
  obtain ⟨e1, e5, h5, e6, hk⟩ := hI
  simp only at e1 e5 h5 e6
  have w1 := w0L k (by omega)
  have xl := xtL_len A B k
  by_cases hlt : k < A.length
  · have d1 : decide ((k : Int) < (A.length : Int)) = true := decide_eq_true (by omega)
    have d2 : decide ((k : Int) < (B.length : Int)) = true := decide_eq_true (by omega)
    have q0 : (0 : Int) ≤ (k : Int) := by omega
    have q1 : (k : Int) < (A.length : Int) := by omega
    have q2 : (k : Int) < (B.length : Int) := by omega
    have g1 : (xtL A B k)[k]? = some (plc A k) := by
      have := getD_at (l := xtL A B k) (i := k) (d := ⟨0, 0⟩) (by omega)
      rw [this]; have h := xtL_get A B k k hlt; rw [if_neg (by omega)] at h; unfold plc at h ⊢; rw [h]
    have g2 : B[k]? = some (plc B k) := getD_at (by omega)
    have htk : ∀ a : Plc, List.take A.length (((xtL A B k).set k a).map eP) = ((xtL A B k).set k a).map eP := fun a => List.take_of_length_le (by simp; omega)
    have htk0 : List.take A.length ((xtL A B k).map eP) = (xtL A B k).map eP := List.take_of_length_le (by simp; omega)
    have hs2 : ∀ a c : Plc, (((xtL A B k).set k a).set k c) = (xtL A B k).set k c := fun a c => List.set_set ..
    have hln : ∀ a : Plc, ((xtL A B k).set k a).length = A.length := fun a => by simp; omega
    have hgt : ∀ a : Plc, ((xtL A B k).set k a)[k]? = some a := fun a => List.getElem?_set_self (by omega)
    have hX : xtL A B (k + 1) = (xtL A B k).set k (fil (plc A k) (plc B k)) := rfl
    have hXn : fil (plc A k) (plc B k) = plc A k → xtL A B (k + 1) = xtL A B k := fun h => by
      rw [hX, h]; apply List.ext_getElem?; intro i
      by_cases e : k = i
      · subst e; rw [List.getElem?_set_self (by omega), g1]
      · rw [List.getElem?_set_ne e]
    by_cases hh : (plc A k).home < 0
    · have f1 : decide ((plc A k).home < 0) = true := decide_eq_true hh
      by_cases hs : (plc A k).sby < 0
      · have f2 : decide ((plc A k).sby < 0) = true := decide_eq_true hs
        have hf : fil (plc A k) (plc B k) = ⟨(plc B k).home, (plc B k).sby⟩ := by unfold fil; rw [if_pos hh, if_pos hs]
        rw [hf] at hX
        simp -implicitDefEqProofs only [go_sem, ir101_l0, e1, e5, h5, e6, d1, d2, q0, q1, q2, xl, g1, g2, w1, f1, f2, set_eP, htk0, htk, hs2, hln, hgt, Nat.le_refl]
        refine .next hlt ⟨?_, ?_, ?_, ?_, by omega⟩ <;> simp -implicitDefEqProofs only [go_sem, e1, e5, w1, hX]
      · have f2 : decide ((plc A k).sby < 0) = false := decide_eq_false hs
        have hf : fil (plc A k) (plc B k) = ⟨(plc B k).home, (plc A k).sby⟩ := by unfold fil; rw [if_pos hh, if_neg hs]
        rw [hf] at hX
        simp -implicitDefEqProofs only [go_sem, ir101_l0, e1, e5, h5, e6, d1, d2, q0, q1, q2, xl, g1, g2, w1, f1, f2, set_eP, htk0, htk, hs2, hln, hgt, Nat.le_refl]
        refine .next hlt ⟨?_, ?_, ?_, ?_, by omega⟩ <;> simp -implicitDefEqProofs only [go_sem, e1, e5, w1, hX]
    · have f1 : decide ((plc A k).home < 0) = false := decide_eq_false hh
      by_cases hs : (plc A k).sby < 0
      · have f2 : decide ((plc A k).sby < 0) = true := decide_eq_true hs
        have hf : fil (plc A k) (plc B k) = ⟨(plc A k).home, (plc B k).sby⟩ := by unfold fil; rw [if_neg hh, if_pos hs]
        rw [hf] at hX
        simp -implicitDefEqProofs only [go_sem, ir101_l0, e1, e5, h5, e6, d1, d2, q0, q1, q2, xl, g1, g2, w1, f1, f2, set_eP, htk0, htk, hs2, hln, hgt, Nat.le_refl]
        refine .next hlt ⟨?_, ?_, ?_, ?_, by omega⟩ <;> simp -implicitDefEqProofs only [go_sem, e1, e5, w1, hX]
      · have f2 : decide ((plc A k).sby < 0) = false := decide_eq_false hs
        have hf : fil (plc A k) (plc B k) = plc A k := by unfold fil; rw [if_neg hh, if_neg hs]
        have hXn := hXn hf
        simp -implicitDefEqProofs only [go_sem, ir101_l0, e1, e5, h5, e6, d1, d2, q0, q1, q2, xl, g1, g2, w1, f1, f2, htk0, Nat.le_refl]
        refine .next hlt ⟨?_, ?_, ?_, ?_, by omega⟩ <;> simp -implicitDefEqProofs only [go_sem, e1, e5, h5, w1, hXn]
  · have hkl : k = A.length := by omega
    have d1 : decide ((k : Int) < (A.length : Int)) = false := decide_eq_false (by omega)
    simp -implicitDefEqProofs only [go_sem, ir101_l0, e1, e5, h5, e6, d1]
    subst hkl
    refine .exit ⟨rfl, ?_, h5⟩ <;> simp -implicitDefEqProofs only [go_sem, e5]
theorem FVF_ext (A B : List Plc) (hA : A.length ≤ 1000) (hB : B.length = A.length) : FVF PP shF 101 [.sl (A.map eP), .sl (B.map eP)] (.sl ((xtL A B A.length).map eP)) := by
  refine FVF_ok (F_ok PP101 rfl ⟨by simp [ir101], by simp⟩ ?_)
  by_cases hp0 : A = []
  · subst hp0
    obtain rfl : B = [] := List.length_eq_zero_iff.1 hB
    simp -implicitDefEqProofs only [go_sem, ir101]
    refine (ext_l0 [] [] (by simp) rfl 7 0 _ ⟨?_, ?_, ?_, ?_, by omega⟩).mono ?_ <;> (try simp -implicitDefEqProofs only [go_sem, xtL]) <;> (try rfl)
    rintro e ⟨E, H⟩ ⟨rfl, e5, h5⟩
    simp only [xtL] at e5 h5
    simp -implicitDefEqProofs only [go_sem, e5, h5]
    simp only [freshD, h5, VB.part]; simp
  have hp1 : 1 ≤ A.length := by have := List.length_pos_iff.2 hp0; omega
  have x0 : ¬ A.length ≤ 0 := by omega
  have x1 : A.length * 16 ≤ 140737488355328 ∧ A.length ≤ 9223372036854775807 := by omega
  have x4 : List.take A.length (A.map eP) = A.map eP := List.take_of_length_le (by simp)
  have z1 := all_eP A
  have z2 := one_eP A
  have z0 : A.map eP ≠ [] := by simpa using hp0
  simp -implicitDefEqProofs only [go_sem, ir101, x0, x1, x4, z0, z1, z2, Nat.le_refl]
  refine (ext_l0 A B hA hB 9 0 _ ⟨?_, ?_, ?_, ?_, by omega⟩).mono ?_ <;> (try simp -implicitDefEqProofs only [go_sem, xtL]) <;> (try rfl)
  rintro e ⟨E, H⟩ ⟨rfl, e5, h5⟩
  simp only at e5 h5
  have ho : SlB H 9 2 ((xtL A B A.length).map eP) (.ms 9 1 0 A.length A.length) := SlB.mk (by simp [xtL_len]) (by omega) h5
  simp -implicitDefEqProofs only [go_sem, e5, ho.frz (by decide) (closed_eP _), ho.fresh (by decide) (lits_eP _)]
/-- A placement that extends another. -/
def Xtd (A F : List Plc) : Prop := A.length = F.length ∧ ∀ k : Nat, k < F.length → ((plc A k).home = (plc F k).home ∨ (plc A k).home = -1) ∧ ((plc A k).sby = (plc F k).sby ∨ (plc A k).sby = -1)
theorem booked_ext {c : Conf} (hc : ConfOk c) {A F : List Plc} (ho : Xtd A F) : ∀ k, k ≤ F.length → k ≤ c.tens.length → LeL (booked c A k) (booked c F k)
  | 0, _, _ => LeL.refl _
  | k + 1, h1, h2 => by
    have ih := booked_ext hc ho k (by omega) (by omega)
    have ht := ten_ok hc (k := k) (by omega)
    have l0 := ht.l0
    have s0 := ht.s0
    simp only [booked]
    have e := ho.2 k (by omega)
    have h3 : LeL (addAt (booked c A k) (plc A k).home (ten c k).load) (addAt (booked c F k) (plc F k).home (ten c k).load) := by
      rcases e.1 with h | h
      · rw [h]; exact ih.add _ _
      · rw [h, addAt_neg]; exact ih.ge _ _ (by omega)
    rcases e.2 with h | h
    · rw [h]; exact h3.add _ _
    · rw [h, addAt_neg]; exact h3.ge _ _ (by omega)
theorem extra_ext {c : Conf} (hc : ConfOk c) {A F : List Plc} (ho : Xtd A F) (r : Int) : ∀ k, k ≤ F.length → k ≤ c.tens.length → LeL (extra c A r k) (extra c F r k)
  | 0, _, _ => LeL.refl _
  | k + 1, h1, h2 => by
    have ih := extra_ext hc ho r k (by omega) (by omega)
    have ht := ten_ok hc (k := k) (by omega)
    have s1 := ht.s1
    simp only [extra]
    cases he : exC c A r k with
    | true =>
      have hx : exC c F r k = true ∧ (plc A k).sby = (plc F k).sby := by
        have e := ho.2 k (by omega)
        have hh : (plc A k).home = (plc F k).home := by
          rcases e.1 with h | h
          · exact h
          · unfold exC at he; rw [h, insideB_neg] at he; simp at he
        have hs : (plc A k).sby = (plc F k).sby := by
          rcases e.2 with h | h
          · exact h
          · unfold exC at he; rw [h] at he; simp at he
        exact ⟨by unfold exC at he ⊢; rw [← hh, ← hs]; exact he, hs⟩
      rw [hx.1, if_pos rfl, if_pos rfl, hx.2]
      exact ih.add _ _
    | false =>
      rw [if_neg (by simp)]
      split
      · exact ih.ge _ _ (by omega)
      · exact ih
theorem oneL_ext {rule : Int} {h : Int → Int → Bool} {A F : List Plc} (ho : Xtd A F) : ∀ n, n ≤ F.length → ∀ x ∈ oneL rule h A n, x ∈ oneL rule h F n
  | 0, _ => by simp [oneL]
  | n + 1, hn => by
    intro x hx
    simp only [oneL, List.mem_append] at hx ⊢
    rcases hx with hx | hx
    · exact .inl (oneL_ext ho n (by omega) x hx)
    · right
      have e := ho.2 n (by omega)
      simp only [oneK, two2, List.mem_append] at hx ⊢
      rcases hx with (hx | hx) | hx
      · simp at hx
      · refine .inl (.inr ?_)
        rcases e.1 with h | h
        · simp only [if_true] at hx ⊢; rw [← h]; exact hx
        · simp only [if_true] at hx; rw [h] at hx; simp [oneX] at hx
      · right
        rcases e.2 with h | h
        · simp at hx ⊢; rw [← h]; exact hx
        · simp at hx; rw [h] at hx; simp [oneX] at hx
theorem apL_ext {c : Conf} {A F : List Plc} (ho : Xtd A F) : ∀ n, n ≤ F.length → ∀ x ∈ apL c A n, x ∈ apL c F n
  | 0, _ => by simp [apL]
  | n + 1, hn => by
    intro x hx
    simp only [apL, List.mem_append] at hx ⊢
    rcases hx with hx | hx
    · exact .inl (apL_ext ho n (by omega) x hx)
    · right
      have e := ho.2 n (by omega)
      unfold apX at hx ⊢
      rcases e.1 with h | h
      · rcases e.2 with h2 | h2
        · rw [← h, ← h2]; exact hx
        · rw [h2] at hx; simp at hx
      · rw [h] at hx; simp at hx
theorem prX_ext {rule : Int} {f g : Nat → Nat → Bool} {A F : List Plc} (ho : Xtd A F) (i k : Nat) (hi : i < F.length) (hk : k < F.length) (hfg : (plc A i).home = (plc F i).home → (plc A k).home = (plc F k).home → f i k = g i k) : ∀ x ∈ prX rule f A i k, x ∈ prX rule g F i k := by
  intro x hx
  unfold prX at hx ⊢
  rcases (ho.2 i hi).1 with e | e
  · rcases (ho.2 k hk).1 with e2 | e2
    · rw [hfg e e2, e, e2] at hx; exact hx
    · rw [e2] at hx; simp at hx
  · rw [e] at hx; simp at hx
theorem prK_ext {rule : Int} {f g : Nat → Nat → Bool} {A F : List Plc} (ho : Xtd A F) (i : Nat) (hi : i < F.length) (hfg : ∀ k, (plc A i).home = (plc F i).home → (plc A k).home = (plc F k).home → f i k = g i k) : ∀ n, n ≤ i → ∀ x ∈ prK rule f A i n, x ∈ prK rule g F i n
  | 0, _ => by simp [prK]
  | n + 1, hn => by
    intro x hx
    simp only [prK, List.mem_append] at hx ⊢
    rcases hx with hx | hx
    · exact .inl (prK_ext ho i hi hfg n (by omega) x hx)
    · exact .inr (prX_ext ho i n hi (by omega) (hfg n) x hx)
theorem prL_ext {rule : Int} {f g : Nat → Nat → Bool} {A F : List Plc} (ho : Xtd A F) (hfg : ∀ i k, (plc A i).home = (plc F i).home → (plc A k).home = (plc F k).home → f i k = g i k) : ∀ n, n ≤ F.length → ∀ x ∈ prL rule f A n, x ∈ prL rule g F n
  | 0, _ => by simp [prL]
  | n + 1, hn => by
    intro x hx
    simp only [prL, List.mem_append] at hx ⊢
    rcases hx with hx | hx
    · exact .inl (prL_ext ho hfg n (by omega) x hx)
    · exact .inr (prK_ext ho n (by omega) (hfg n) n (Nat.le_refl n) x hx)
theorem cpL_ext {c : Conf} {b b' : List Int} (h : LeL b b') : ∀ n, ∀ x ∈ cpL c b n, x ∈ cpL c b' n
  | 0 => by simp [cpL]
  | n + 1 => by
    intro x hx
    simp only [cpL, List.mem_append] at hx ⊢
    rcases hx with hx | hx
    · exact .inl (cpL_ext h n x hx)
    · right
      have := h.2 n
      unfold cpX at hx ⊢
      by_cases hy : b.getD n 0 > capI c n
      · rw [if_pos hy] at hx; rw [if_pos (by omega)]; exact hx
      · rw [if_neg hy] at hx; simp at hx
theorem hrK_ext {c : Conf} {b b' y y' : List Int} {r : Int} (h : LeL b b') (h2 : LeL y y') : ∀ n, ∀ x ∈ hrK c b y r n, x ∈ hrK c b' y' r n
  | 0 => by simp [hrK]
  | n + 1 => by
    intro x hx
    simp only [hrK, List.mem_append] at hx ⊢
    rcases hx with hx | hx
    · exact .inl (hrK_ext h h2 n x hx)
    · right
      have t1 := h.2 n
      have t2 := h2.2 n
      unfold hrX at hx ⊢
      by_cases hy : insideB c (n : Int) r = false ∧ b.getD n 0 + y.getD n 0 > capI c n
      · rw [if_pos hy] at hx; rw [if_pos ⟨hy.1, by have := hy.2; omega⟩]; exact hx
      · rw [if_neg hy] at hx; simp at hx
theorem hrL_ext {c : Conf} (hc : ConfOk c) {b b' : List Int} {A F : List Plc} (ho : Xtd A F) (hl : F.length ≤ c.tens.length) (h : LeL b b') : ∀ n, ∀ x ∈ hrL c b A n, x ∈ hrL c b' F n
  | 0 => by simp [hrL]
  | n + 1 => by
    intro x hx
    simp only [hrL, List.mem_append] at hx ⊢
    rcases hx with hx | hx
    · exact .inl (hrL_ext hc ho hl h n x hx)
    · right
      rw [ho.1] at hx
      exact hrK_ext h (extra_ext hc ho _ _ (Nat.le_refl _) hl) _ x hx
/-- What a placement breaks, every extension of it breaks. -/
theorem partL_ext {p : Prob} (hc : ConfOk p.conf) {A F : List Plc} (hl : F.length = p.conf.tens.length) (ho : Xtd A F) : ∀ x ∈ partL p A, x ∈ partL p F := by
  intro x hx
  have hb := booked_ext hc ho F.length (Nat.le_refl _) (by omega)
  unfold partL at hx ⊢
  rw [ho.1] at hx
  simp only [List.mem_append] at hx ⊢
  rcases hx with (((((hx | hx) | hx) | hx) | hx) | hx) | hx
  · exact .inl (.inl (.inl (.inl (.inl (.inl (oneL_ext ho _ (Nat.le_refl _) x hx))))))
  · exact .inl (.inl (.inl (.inl (.inl (.inr (oneL_ext ho _ (Nat.le_refl _) x hx))))))
  · exact .inl (.inl (.inl (.inl (.inr (apL_ext ho _ (Nat.le_refl _) x hx)))))
  · exact .inl (.inl (.inl (.inr (prL_ext ho (fun i k e1 e2 => by unfold grpB; rw [e1, e2]) _ (Nat.le_refl _) x hx))))
  · exact .inl (.inl (.inr (prL_ext ho (fun i k e1 e2 => by unfold nsyB; rw [e1, e2]) _ (Nat.le_refl _) x hx)))
  · exact .inl (.inr (cpL_ext hb _ x hx))
  · right
    cases hh : p.head with
    | false => rw [hh, if_neg (by simp)] at hx; simp at hx
    | true => rw [hh, if_pos rfl] at hx; rw [if_pos rfl]; exact hrL_ext hc ho (by omega) hb _ x hx
theorem xt_ext {c : Conf} {A B : List Plc} (hA : FitP c A) (hB : FitP c B) : Xtd A (xtL A B A.length) ∧ FitP c (xtL A B A.length) := by
  have hl := xtL_len A B A.length
  have hx : ∀ k : Nat, k < A.length → plc (xtL A B A.length) k = fil (plc A k) (plc B k) := fun k hk => by rw [xtL_get A B A.length k hk, if_pos hk]
  have hfit : ∀ k : Nat, k < A.length → PlcOk c (plc A k) ∧ PlcOk c (plc B k) := fun k hk => ⟨hA.2 _ (getD_mem hk), hB.2 _ (getD_mem (by have := hA.1; have := hB.1; omega))⟩
  refine ⟨⟨hl.symm, fun k hk => ?_⟩, by rw [hl]; exact hA.1, fun x hx2 => ?_⟩
  · rw [hl] at hk
    rw [hx k hk]
    have h1 := (hfit k hk).1.h0
    have h2 := (hfit k hk).1.s0
    unfold fil
    constructor
    · by_cases h : (plc A k).home < 0
      · right; omega
      · left; simp only; rw [if_neg h]
    · by_cases h : (plc A k).sby < 0
      · right; omega
      · left; simp only; rw [if_neg h]
  · obtain ⟨k, hk, rfl⟩ := List.getElem_of_mem hx2
    rw [hl] at hk
    have e : (xtL A B A.length)[k] = plc (xtL A B A.length) k := by unfold plc; rw [List.getD_eq_getElem?_getD, List.getElem?_eq_getElem]; rfl
    rw [e, hx k hk]
    have h1 := (hfit k hk).1
    have h2 := (hfit k hk).2
    unfold fil
    refine ⟨?_, ?_, ?_, ?_⟩ <;> simp only <;> split
    · exact h2.h0
    · exact h1.h0
    · exact h2.h1
    · exact h1.h1
    · exact h2.s0
    · exact h1.s0
    · exact h2.s1
    · exact h1.s1
def fnd (x : Brk) (L : List Brk) : Bool := decide (x ∈ L)
theorem fnd_step (x : Brk) (L : List Brk) (k : Nat) (h : k < L.length) : fnd x (L.take (k + 1)) = (fnd x (L.take k) || decide (L.getD k ⟨0, 0, 0, 0, 0⟩ = x)) := by
  have g := getD_at (l := L) (i := k) (d := ⟨0, 0, 0, 0, 0⟩) h
  unfold fnd
  rw [List.take_add_one, g, Bool.eq_iff_iff]
  simp only [List.mem_append, Option.toList_some, List.mem_singleton, decide_eq_true_eq, Bool.or_eq_true]
  constructor
  · rintro (h | h)
    · exact .inl h
    · exact .inr h.symm
  · rintro (h | h)
    · exact .inl h
    · exact .inr h.symm
theorem brk_ne {x y : Brk} (h : x ≠ y) : (x.rule == y.rule) = false ∨ ((x.rule == y.rule) = true ∧ (x.tenant == y.tenant) = false) ∨ ((x.rule == y.rule) = true ∧ (x.tenant == y.tenant) = true ∧ (x.other == y.other) = false) ∨
    ((x.rule == y.rule) = true ∧ (x.tenant == y.tenant) = true ∧ (x.other == y.other) = true ∧ (x.cell == y.cell) = false) ∨ ((x.rule == y.rule) = true ∧ (x.tenant == y.tenant) = true ∧ (x.other == y.other) = true ∧ (x.cell == y.cell) = true ∧ (x.region == y.region) = false) := by
  obtain ⟨a1, a2, a3, a4, a5⟩ := x
  obtain ⟨b1, b2, b3, b4, b5⟩ := y
  simp only [Brk.mk.injEq, ne_eq, not_and] at h
  simp only [beq_iff_eq, beq_eq_false_iff_ne, ne_eq]
  by_cases h1 : a1 = b1
  · by_cases h2 : a2 = b2
    · by_cases h3 : a3 = b3
      · by_cases h4 : a4 = b4
        · exact .inr (.inr (.inr (.inr ⟨h1, h2, h3, h4, h h1 h2 h3 h4⟩)))
        · exact .inr (.inr (.inr (.inl ⟨h1, h2, h3, h4⟩)))
      · exact .inr (.inr (.inl ⟨h1, h2, h3⟩))
    · exact .inr (.inl ⟨h1, h2⟩)
  · exact .inl h1
def L84i (L M : List Brk) (i : Nat) (k : Nat) (w : VSt) : Prop := gt .bad w.E 14 = .sl (L.map eB) ∧ gt .bad w.E 15 = .sl (M.map eB) ∧ gt .bad w.E 16 = dI (i : Nat) ∧ gt .bad w.E 17 = dB (fnd (L.getD i ⟨0, 0, 0, 0, 0⟩) (M.take k)) ∧ gt .bad w.E 18 = dI (k : Nat) ∧ k ≤ M.length
theorem stay_l0 (L M : List Brk) (i : Nat) (hi : i < L.length) (hL : L.length ≤ 1000) (hM : M.length ≤ 1000) : ∀ k w, L84i L M i k w → Ok (R PP shF 0 80 (.loop ir84_l0) w) (fun e w => e = .exit 2 ∧ L84i L M i M.length w) := by
  refine Ok_up M.length (L84i L M i) fun k w hI => ?_
  obtain ⟨E, H⟩ := w
  obtain ⟨e14, e15, e16, e17, e18, hk⟩ := hI
  simp only at e14 e15 e16 e17 e18
  have w1 := w0L k (by omega)
  by_cases hlt : k < M.length
  · have d1 : decide ((k : Int) < (M.length : Int)) = true := decide_eq_true (by omega)
    have hS := fnd_step (L.getD i ⟨0, 0, 0, 0, 0⟩) M k hlt
    have q0 : (0 : Int) ≤ (k : Int) := by omega
    have q1 : (k : Int) < (M.length : Int) := by omega
    have q2 : (0 : Int) ≤ (i : Int) := by omega
    have q3 : (i : Int) < (L.length : Int) := by omega
    have g1 := getD_at (l := M) (i := k) (d := ⟨0, 0, 0, 0, 0⟩) (by omega)
    have g2 := getD_at (l := L) (i := i) (d := ⟨0, 0, 0, 0, 0⟩) (by omega)
    generalize hx : L.getD i ⟨0, 0, 0, 0, 0⟩ = x at *
    generalize M.getD k ⟨0, 0, 0, 0, 0⟩ = y at *
    cases hf : fnd x (M.take k) with
    | true =>
      rw [hf] at e17 hS
      rw [Bool.true_or] at hS
      simp -implicitDefEqProofs only [go_sem, ir84_l0, e14, e15, e16, e17, e18, d1, w1]
      refine .next hlt ⟨?_, ?_, ?_, ?_, ?_, by omega⟩ <;> simp -implicitDefEqProofs only [go_sem, e14, e15, e16, w1, hx, hS]
    | false =>
      rw [hf] at e17 hS
      rw [Bool.false_or] at hS
      by_cases hxy : x = y
      · rw [decide_eq_true hxy.symm] at hS
        subst hxy
        have n1 : ∀ a : Int, (a == a) = true := fun a => by simp
        simp -implicitDefEqProofs only [go_sem, ir84_l0, e14, e15, e16, e17, e18, d1, w1, q0, q1, q2, q3, g1, g2, n1]
        refine .next hlt ⟨?_, ?_, ?_, ?_, ?_, by omega⟩ <;> simp -implicitDefEqProofs only [go_sem, e14, e15, e16, w1, hx, hS]
      · rw [decide_eq_false (fun h => hxy h.symm)] at hS
        rcases brk_ne hxy with f | ⟨f, f2⟩ | ⟨f, f2, f3⟩ | ⟨f, f2, f3, f4⟩ | ⟨f, f2, f3, f4, f5⟩
        · simp -implicitDefEqProofs only [go_sem, ir84_l0, e14, e15, e16, e17, e18, d1, w1, q0, q1, q2, q3, g1, g2, f]
          refine .next hlt ⟨?_, ?_, ?_, ?_, ?_, by omega⟩ <;> simp -implicitDefEqProofs only [go_sem, e14, e15, e16, w1, hx, hS]
        · simp -implicitDefEqProofs only [go_sem, ir84_l0, e14, e15, e16, e17, e18, d1, w1, q0, q1, q2, q3, g1, g2, f, f2]
          refine .next hlt ⟨?_, ?_, ?_, ?_, ?_, by omega⟩ <;> simp -implicitDefEqProofs only [go_sem, e14, e15, e16, w1, hx, hS]
        · simp -implicitDefEqProofs only [go_sem, ir84_l0, e14, e15, e16, e17, e18, d1, w1, q0, q1, q2, q3, g1, g2, f, f2, f3]
          refine .next hlt ⟨?_, ?_, ?_, ?_, ?_, by omega⟩ <;> simp -implicitDefEqProofs only [go_sem, e14, e15, e16, w1, hx, hS]
        · simp -implicitDefEqProofs only [go_sem, ir84_l0, e14, e15, e16, e17, e18, d1, w1, q0, q1, q2, q3, g1, g2, f, f2, f3, f4]
          refine .next hlt ⟨?_, ?_, ?_, ?_, ?_, by omega⟩ <;> simp -implicitDefEqProofs only [go_sem, e14, e15, e16, w1, hx, hS]
        · simp -implicitDefEqProofs only [go_sem, ir84_l0, e14, e15, e16, e17, e18, d1, w1, q0, q1, q2, q3, g1, g2, f, f2, f3, f4, f5]
          refine .next hlt ⟨?_, ?_, ?_, ?_, ?_, by omega⟩ <;> simp -implicitDefEqProofs only [go_sem, e14, e15, e16, w1, hx, hS]
  · have hkl : k = M.length := by omega
    have d1 : decide ((k : Int) < (M.length : Int)) = false := decide_eq_false (by omega)
    simp -implicitDefEqProofs only [go_sem, ir84_l0, e15, e18, d1]
    subst hkl
    refine .exit ⟨rfl, ?_, ?_, ?_, ?_, ?_, by omega⟩ <;> simp -implicitDefEqProofs only [go_sem, e14, e15, e16, e17, e18]
def L84 (L M : List Brk) (k : Nat) (w : VSt) : Prop := gt .bad w.E 14 = .sl (L.map eB) ∧ gt .bad w.E 15 = .sl (M.map eB) ∧ gt .bad w.E 16 = dI (k : Nat) ∧ k ≤ L.length
theorem stay_l1 (L M : List Brk) (hL : L.length ≤ 1000) (hM : M.length ≤ 1000) (hs : ∀ x ∈ L, x ∈ M) : ∀ k w, L84 L M k w → Ok (R PP shF 0 80 (.loop ir84_l1) w) (fun e w => e = .exit 0) := by
  refine Ok_up L.length (L84 L M) fun k w hI => ?_
  obtain ⟨E, H⟩ := w
  obtain ⟨e14, e15, e16, hk⟩ := hI
  simp only at e14 e15 e16
  have w1 := w0L k (by omega)
  by_cases hlt : k < L.length
  · have d1 : decide ((k : Int) < (L.length : Int)) = true := decide_eq_true (by omega)
    have hin := hs _ (getD_mem (d := ⟨0, 0, 0, 0, 0⟩) hlt)
    have z0 : fnd (L.getD k ⟨0, 0, 0, 0, 0⟩) (M.take 0) = false := by unfold fnd; simp
    have z1 : fnd (L.getD k ⟨0, 0, 0, 0, 0⟩) (M.take M.length) = true := by unfold fnd; rw [List.take_length]; exact decide_eq_true hin
    simp -implicitDefEqProofs only [go_sem, ir84_l1, e14, e16, d1]
    refine (stay_l0 L M k hlt hL hM 0 _ ⟨?_, ?_, ?_, ?_, ?_, by omega⟩).mono ?_ <;> (try simp -implicitDefEqProofs only [go_sem, e14, e15, e16, z0]) <;> (try rfl)
    rintro e ⟨E, H⟩ ⟨rfl, e14, e15, e16, e17, e18, _⟩
    simp only at e14 e15 e16 e17 e18
    rw [z1] at e17
    simp -implicitDefEqProofs only [go_sem, e16, e17, w1]
    refine .next hlt ⟨?_, ?_, ?_, by omega⟩ <;> simp -implicitDefEqProofs only [go_sem, e14, e15, w1]
  · have hkl : k = L.length := by omega
    have d1 : decide ((k : Int) < (L.length : Int)) = false := decide_eq_false (by omega)
    simp -implicitDefEqProofs only [go_sem, ir84_l1, e14, e16, d1]
    exact .exit rfl
theorem law_RulesStay (l : List Int) (hl : I64s l) (m : List Int) (hm : I64s m) (n : List Int) (hn : I64s n) (cells : Int) (h1 : I64 cells) (hr : Bool) : OkF (F PP shF 84 [dL l, dL m, dL n, dI cells, dB hr] [] 0) (fun d _ => d = dB true) := by
  refine F_ok PP84 rfl ⟨by simp [ir84], by simp⟩ ?_
  have L := FV_Light l
  have L2 := FV_Light m
  have L3 := FV_Light n
  by_cases hlen : l.length ≤ 200
  case neg => rw [decide_eq_false hlen] at L; simp -implicitDefEqProofs only [go_sem, ir84, vpS L rfl, vpS FV_awake17 rfl]
  rw [decide_eq_true hlen] at L
  by_cases hlen2 : m.length ≤ 200
  case neg => rw [decide_eq_false hlen2] at L2; simp -implicitDefEqProofs only [go_sem, ir84, vpS L rfl, vpS L2 rfl, vpS FV_awake17 rfl]
  rw [decide_eq_true hlen2] at L2
  by_cases hlen3 : n.length ≤ 200
  case neg => rw [decide_eq_false hlen3] at L3; simp -implicitDefEqProofs only [go_sem, ir84, vpS L rfl, vpS L2 rfl, vpS L3 rfl, vpS FV_awake17 rfl]
  rw [decide_eq_true hlen3] at L3
  obtain ⟨p, hc, hcells, hhd, hP⟩ := FV_Problem l hl cells h1 hr
  obtain ⟨ps, hps1, hps2, hQ⟩ := FVF_Places m hm p.conf hc
  obtain ⟨qs, hqs1, hqs2, hQ2⟩ := FVF_Places n hn p.conf hc
  have hfit : FitP p.conf ps := ⟨hps1, hps2⟩
  have hfit2 : FitP p.conf qs := ⟨hqs1, hqs2⟩
  have ht := hc.t1
  obtain ⟨x1, x2⟩ := xt_ext hfit hfit2
  have EX := FVF_ext ps qs (by omega) (by omega)
  generalize xtL ps qs ps.length = xs at *
  have A1 := FVF_Partial p hc ps (by omega)
  rw [(fit_iff hc ps).2 hfit, if_pos rfl] at A1
  have A2 := FVF_Partial p hc xs (by have := x2.1; omega)
  rw [(fit_iff hc xs).2 x2, if_pos rfl] at A2
  have pl := partL_len hc hfit
  have pl2 := partL_len hc x2
  have hs := partL_ext hc x2.1 x1
  simp -implicitDefEqProofs only [go_sem, ir84, vpS L rfl, vpS L2 rfl, vpS L3 rfl, vpL hP rfl, eQ, eK, vpF hQ rfl, vpF hQ2 rfl, vpS FV_awake17 rfl, vpF EX rfl, vpF A1 rfl, vpF A2 rfl]
  refine (stay_l1 (partL p ps) (partL p xs) (by omega) (by omega) hs 0 _ ⟨?_, ?_, ?_, by omega⟩).mono ?_ <;> (try simp -implicitDefEqProofs only [go_sem, ]) <;> (try rfl)
  rintro e ⟨E, H⟩ rfl
  simp -implicitDefEqProofs only [go_sem, vpS FV_awake17 rfl]
end Go.Proofs.Cp
