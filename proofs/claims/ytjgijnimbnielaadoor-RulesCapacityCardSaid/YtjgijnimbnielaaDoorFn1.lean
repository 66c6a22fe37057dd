/- What the functions answer (part 1). -/
import Derived.Test.YtjgijnimbnielaaDoorFn0
set_option linter.unusedSimpArgs false
set_option linter.unusedVariables false
set_option maxRecDepth 100000
namespace Go.Proofs.Cp
open Go
def L64b (c : Conf) (k : Nat) (w : VSt) : Prop := K64 c w ∧ gt .bad w.E 23 = .sl (c.cells.map eC) ∧ gt .bad w.E 24 = dI (c.cells.length : Nat) ∧ gt .bad w.E 25 = dI (k : Nat) ∧ k ≤ c.cells.length ∧ allN (qC c) k = true
theorem placed_l1 (c : Conf) (hc : Lens c) : ∀ k w, L64b c k w → Ok (R PP shF 0 54 (.loop ir64_l1) w) (fun e w => (e = .exit 2 ∧ allN (qC c) c.cells.length = true ∧ K64 c w) ∨ (e = .ret ∧ allN (qC c) c.cells.length = false ∧ gt .bad w.E 2 = dB false)) := by
  refine Ok_up c.cells.length (L64b c) fun k w hI => ?_
  obtain ⟨E, H⟩ := w
  obtain ⟨⟨e1, h1⟩, e23, e24, e25, hk, ha⟩ := hI
  simp only at e1 h1 e23 e24 e25
  have hz := hc.z
  have hcl := hc.c
  have w1 : IntKind.wrap .i64 ((k : Int) + 1) = ((k + 1 : Nat) : Int) := by rw [w64 (by omega) (by omega)]; rfl
  have w2 : IntKind.wrap .i64 ((c.zones.length : Int) - 1) = (c.zones.length : Int) - 1 := w64 (by omega) (by omega)
  by_cases hlt : k < c.cells.length
  · have d1 : decide ((k : Int) < (c.cells.length : Int)) = true := by simp; omega
    have q1 : (k : Int) < (c.cells.length : Int) := by omega
    have q0 : (0 : Int) ≤ (k : Int) := by omega
    have g1 := getD_at (l := c.cells) (i := k) (d := ⟨0, 0⟩) hlt
    have B1 := FV_tb (c.cells.getD k ⟨0, 0⟩).zone 0 ((c.zones.length : Int) - 1)
    have B2 := FV_tb (c.cells.getD k ⟨0, 0⟩).cap 1 4194304
    have hq : qC c k = (inB (c.cells.getD k ⟨0, 0⟩).zone 0 ((c.zones.length : Int) - 1) && inB (c.cells.getD k ⟨0, 0⟩).cap 1 4194304) := rfl
    cases x1 : inB (c.cells.getD k ⟨0, 0⟩).zone 0 ((c.zones.length : Int) - 1) with
    | true =>
      rw [x1] at B1
      cases x2 : inB (c.cells.getD k ⟨0, 0⟩).cap 1 4194304 with
      | true =>
        rw [x2] at B2
        rw [x1, x2] at hq
        simp -implicitDefEqProofs only [go_sem, ir64_l1, eK, e1, h1, e23, e24, e25, d1, q0, q1, g1, w1, w2, vpS B1 rfl, vpS B2 rfl]
        refine .next hlt ⟨⟨?_, ?_⟩, ?_, ?_, ?_, by omega, allN_next ha hq⟩ <;> simp -implicitDefEqProofs only [go_sem, e1, h1, e23, e24, w1, eK]
      | false =>
        rw [x2] at B2
        rw [x1, x2] at hq
        simp -implicitDefEqProofs only [go_sem, ir64_l1, eK, e1, h1, e23, e24, e25, d1, q0, q1, g1, w1, w2, vpS B1 rfl, vpS B2 rfl]
        refine .ret (.inr ⟨rfl, allN_false hq _ hlt, ?_⟩)
        simp -implicitDefEqProofs only [go_sem, ]
    | false =>
      rw [x1] at B1
      rw [x1] at hq
      simp -implicitDefEqProofs only [go_sem, ir64_l1, eK, e1, h1, e23, e24, e25, d1, q0, q1, g1, w1, w2, vpS B1 rfl, vpS B2 rfl]
      refine .ret (.inr ⟨rfl, allN_false hq _ hlt, ?_⟩)
      simp -implicitDefEqProofs only [go_sem, ]
  · have : k = c.cells.length := by omega
    subst this
    have d1 : decide ((c.cells.length : Int) < (c.cells.length : Int)) = false := by simp
    simp -implicitDefEqProofs only [go_sem, ir64_l1, eK, e24, e25, d1]
    exact .exit (.inl ⟨rfl, ha, by simp -implicitDefEqProofs only [go_sem, e1], h1⟩)
theorem FV_placed (c : Conf) (hc : Lens c) (hr : 1 ≤ c.regions ∧ c.regions ≤ 4) : FV PP shF 64 [.agg (eK c)] = some (dB (placedB c)) := by
  have Z1 := FV_zones c hc.z c.reps hc.p
  have Z2 := FV_zones c hc.z c.obs hc.o
  refine FV_ok (F_ok PP64 rfl ⟨by simp [ir64], by simp⟩ ?_)
  unfold placedB
  simp -implicitDefEqProofs only [go_sem, ir64, eK]
  refine (placed_l0 c hc hr 0 _ ⟨⟨?_, ?_⟩, ?_, ?_, ?_, by omega, rfl⟩).mono ?_ <;> (try simp -implicitDefEqProofs only [go_sem, eK])
  rintro e ⟨E, H⟩ (⟨rfl, hb, e1, h1⟩ | ⟨rfl, hb, e4⟩)
  · simp only at e1 h1
    simp -implicitDefEqProofs only [go_sem, eK, e1, h1, hb]
    refine (placed_l1 c hc 0 _ ⟨⟨?_, ?_⟩, ?_, ?_, ?_, by omega, rfl⟩).mono ?_ <;> (try simp -implicitDefEqProofs only [go_sem, e1, h1, eK])
    rintro e ⟨E, H⟩ (⟨rfl, hb, e1, h1⟩ | ⟨rfl, hb, e4⟩)
    · simp only at e1 h1
      generalize zonesB c c.reps = z1 at *
      generalize zonesB c c.obs = z2 at *
      cases z1
      · simp -implicitDefEqProofs only [go_sem, eK, e1, h1, hb, vpS Z1 rfl]
      · simp -implicitDefEqProofs only [go_sem, eK, e1, h1, hb, vpS Z1 rfl, vpS Z2 rfl]
    · simp only at e4
      simp -implicitDefEqProofs only [go_sem, hb, e4]
  · simp only at e4
    simp -implicitDefEqProofs only [go_sem, hb, e4]
def versB (c : Conf) : Bool := allN (qV c) c.vers.length && firstB c
def qV2 (c : Conf) (i : Nat) : Bool := qV c i && (decide (i ≠ 0) || firstB c)
def L65 (c : Conf) (k : Nat) (w : VSt) : Prop := gt .bad w.E 6 = .sl (c.vers.map eV) ∧ gt .bad w.E 7 = dI (c.vers.length : Nat) ∧ gt .bad w.E 8 = dI (k : Nat) ∧ k ≤ c.vers.length ∧ allN (qV2 c) k = true
theorem vers_l0 (c : Conf) (hc : Lens c) : ∀ k w, L65 c k w → Ok (R PP shF 0 38 (.loop ir65_l0) w) (Qb (allN (qV2 c) c.vers.length) 2) := by
  refine Ok_up c.vers.length (L65 c) fun k w hI => ?_
  obtain ⟨E, H⟩ := w
  obtain ⟨e6, e7, e8, hk, ha⟩ := hI
  simp only at e6 e7 e8
  have hv := hc.v
  have w1 : IntKind.wrap .i64 ((k : Int) + 1) = ((k + 1 : Nat) : Int) := by rw [w64 (by omega) (by omega)]; rfl
  by_cases hlt : k < c.vers.length
  · have d1 : decide ((k : Int) < (c.vers.length : Int)) = true := by simp; omega
    have q1 : (k : Int) < (c.vers.length : Int) := by omega
    have q0 : (0 : Int) ≤ (k : Int) := by omega
    have g1 := getD_at (l := c.vers) (i := k) (d := ⟨0, 0⟩) hlt
    by_cases a1 : 0 ≤ (c.vers.getD k ⟨0, 0⟩).low
    · have b1 : decide ((c.vers.getD k ⟨0, 0⟩).low < 0) = false := decide_eq_false (by omega)
      by_cases a2 : (c.vers.getD k ⟨0, 0⟩).low ≤ (c.vers.getD k ⟨0, 0⟩).high
      · have b2 : decide ((c.vers.getD k ⟨0, 0⟩).high < (c.vers.getD k ⟨0, 0⟩).low) = false := decide_eq_false (by omega)
        by_cases a3 : (c.vers.getD k ⟨0, 0⟩).high ≤ 30
        · have b3 : decide (30 < (c.vers.getD k ⟨0, 0⟩).high) = false := decide_eq_false (by omega)
          by_cases a4 : k = 0
          · have b4 : ((k : Int) == 0) = true := by simp; exact a4
            cases hf : firstB c with
            | true =>
              have b5 : ((c.vers.getD k ⟨0, 0⟩).low != 0) = false := by rw [a4]; unfold firstB at hf; simp only [bne, hf]; rfl
              have hq : qV2 c k = true := by unfold qV2 qV; rw [decide_eq_true a1, decide_eq_true a2, decide_eq_true a3, hf, Bool.or_true]; rfl
              simp -implicitDefEqProofs only [go_sem, ir65_l0, eK, e6, e7, e8, d1, q0, q1, g1, w1, b1, b2, b3, b4, b5]
              refine .next hlt ⟨?_, ?_, ?_, by omega, allN_next ha hq⟩ <;> simp -implicitDefEqProofs only [go_sem, e6, e7, w1, eK]
            | false =>
              have b5 : ((c.vers.getD k ⟨0, 0⟩).low != 0) = true := by rw [a4]; unfold firstB at hf; simp only [bne, hf]; rfl
              have hq : qV2 c k = false := by simp [qV2, hf, a4]
              simp -implicitDefEqProofs only [go_sem, ir65_l0, eK, e6, e7, e8, d1, q0, q1, g1, w1, b1, b2, b3, b4, b5]
              refine .ret (.inr ⟨rfl, allN_false hq _ hlt, ?_⟩)
              simp -implicitDefEqProofs only [go_sem, ]
          · have b4 : ((k : Int) == 0) = false := by simp; exact a4
            have hq : qV2 c k = true := by unfold qV2 qV; rw [decide_eq_true a1, decide_eq_true a2, decide_eq_true a3, decide_eq_true (show k ≠ 0 from a4), Bool.true_or]; rfl
            simp -implicitDefEqProofs only [go_sem, ir65_l0, eK, e6, e7, e8, d1, q0, q1, g1, w1, b1, b2, b3, b4]
            refine .next hlt ⟨?_, ?_, ?_, by omega, allN_next ha hq⟩ <;> simp -implicitDefEqProofs only [go_sem, e6, e7, w1, eK]
        · have b3 : decide (30 < (c.vers.getD k ⟨0, 0⟩).high) = true := decide_eq_true (by omega)
          have hq : qV2 c k = false := by unfold qV2 qV; rw [decide_eq_false a3, Bool.and_false, Bool.false_and]
          simp -implicitDefEqProofs only [go_sem, ir65_l0, eK, e6, e7, e8, d1, q0, q1, g1, w1, b1, b2, b3]
          refine .ret (.inr ⟨rfl, allN_false hq _ hlt, ?_⟩)
          simp -implicitDefEqProofs only [go_sem, ]
      · have b2 : decide ((c.vers.getD k ⟨0, 0⟩).high < (c.vers.getD k ⟨0, 0⟩).low) = true := decide_eq_true (by omega)
        have hq : qV2 c k = false := by unfold qV2 qV; rw [decide_eq_false a2, Bool.and_false, Bool.false_and, Bool.false_and]
        simp -implicitDefEqProofs only [go_sem, ir65_l0, eK, e6, e7, e8, d1, q0, q1, g1, w1, b1, b2]
        refine .ret (.inr ⟨rfl, allN_false hq _ hlt, ?_⟩)
        simp -implicitDefEqProofs only [go_sem, ]
    · have b1 : decide ((c.vers.getD k ⟨0, 0⟩).low < 0) = true := decide_eq_true (by omega)
      have hq : qV2 c k = false := by unfold qV2 qV; rw [decide_eq_false a1, Bool.false_and, Bool.false_and, Bool.false_and]
      simp -implicitDefEqProofs only [go_sem, ir65_l0, eK, e6, e7, e8, d1, q0, q1, g1, w1, b1]
      refine .ret (.inr ⟨rfl, allN_false hq _ hlt, ?_⟩)
      simp -implicitDefEqProofs only [go_sem, ]
  · have : k = c.vers.length := by omega
    subst this
    have d1 : decide ((c.vers.length : Int) < (c.vers.length : Int)) = false := by simp
    simp -implicitDefEqProofs only [go_sem, ir65_l0, eK, e7, e8, d1]
    exact .exit (.inl ⟨rfl, ha⟩)
theorem versB_eq (c : Conf) (h : c.vers.length ≠ 0) : allN (qV2 c) c.vers.length = versB c := by
  have key : ∀ n : Nat, allN (qV2 c) (n + 1) = (allN (qV c) (n + 1) && firstB c) := by
    intro n
    induction n with
    | zero => simp [allN, qV2]
    | succ n ih =>
      show (allN (qV2 c) (n + 1) && qV2 c (n + 1)) = ((allN (qV c) (n + 1) && qV c (n + 1)) && firstB c)
      rw [ih]
      have : qV2 c (n + 1) = qV c (n + 1) := by simp [qV2]
      rw [this]
      cases allN (qV c) (n + 1) <;> cases qV c (n + 1) <;> cases firstB c <;> rfl
  obtain ⟨n, hn⟩ : ∃ n, c.vers.length = n + 1 := ⟨c.vers.length - 1, by omega⟩
  unfold versB
  rw [hn]; exact key n
theorem FV_versions (c : Conf) (hc : Lens c) (h : c.vers.length ≠ 0) : FV PP shF 65 [.agg (eK c)] = some (dB (versB c)) := by
  rw [← versB_eq c h]
  refine FV_ok (F_ok PP65 rfl ⟨by simp [ir65], by simp⟩ ?_)
  simp -implicitDefEqProofs only [go_sem, ir65, eK]
  refine (vers_l0 c hc 0 _ ⟨?_, ?_, ?_, by omega, rfl⟩).mono ?_ <;> (try simp -implicitDefEqProofs only [go_sem, eK])
  rintro e ⟨E, H⟩ (⟨rfl, hb⟩ | ⟨rfl, hb, e4⟩)
  · simp -implicitDefEqProofs only [go_sem, hb]
  · simp only at e4
    simp -implicitDefEqProofs only [go_sem, hb, e4]
def evenB (c : Conf) : Bool := (c.reps.length : Int).tmod 2 == 0
def restB (c : Conf) : Bool := inB c.blast 1 16 && inB c.lease 1 1000 && inB c.bake 0 10000
def okB4 (c : Conf) : Bool := !evenB c && placedB c && versB c && restB c
def validN (c : Conf) : Int := if limB c = true then (if okB4 c = true then 0 else 1) else 2
theorem limB_facts {c : Conf} (h : limB c = true) : (1 ≤ c.regions ∧ c.regions ≤ 4) ∧ c.vers.length ≠ 0 := by
  unfold limB inB at h
  simp only [Bool.and_eq_true, decide_eq_true_eq] at h
  obtain ⟨⟨⟨⟨⟨⟨h1, _⟩, _⟩, h4⟩, _⟩, _⟩, _⟩ := h
  exact ⟨h1, by omega⟩
theorem FV_Valid (c : Conf) (hc : Lens c) : FV PP shF 30 [.agg (eK c)] = some (dI (validN c)) := by
  refine FV_ok (F_ok PP30 rfl ⟨by simp [ir30], by simp⟩ ?_)
  have B1 := FV_sized c
  have T1 := FV_tb c.blast 1 16
  have T2 := FV_tb c.lease 1 1000
  have T3 := FV_tb c.bake 0 10000
  unfold validN
  cases hl : limB c with
  | false =>
    rw [hl] at B1
    simp -implicitDefEqProofs only [go_sem, ir30, eK, vpS B1 rfl]
  | true =>
    rw [hl] at B1
    have B2 := FV_placed c hc (limB_facts hl).1
    have B3 := FV_versions c hc (limB_facts hl).2
    unfold okB4 restB
    have he : ((c.reps.length : Int).tmod 2 == 0) = evenB c := rfl
    generalize evenB c = ev at *
    generalize placedB c = pl at *
    generalize versB c = ve at *
    generalize inB c.blast 1 16 = r1 at *
    generalize inB c.lease 1 1000 = r2 at *
    generalize inB c.bake 0 10000 = r3 at *
    cases ev
    · cases pl
      · simp -implicitDefEqProofs only [go_sem, ir30, eK, vpS B1 rfl, he, vpS B2 rfl]
      · cases ve
        · simp -implicitDefEqProofs only [go_sem, ir30, eK, vpS B1 rfl, he, vpS B2 rfl, vpS B3 rfl]
        · cases r1
          · simp -implicitDefEqProofs only [go_sem, ir30, eK, vpS B1 rfl, he, vpS B2 rfl, vpS B3 rfl, vpS T1 rfl]
          · cases r2
            · simp -implicitDefEqProofs only [go_sem, ir30, eK, vpS B1 rfl, he, vpS B2 rfl, vpS B3 rfl, vpS T1 rfl, vpS T2 rfl]
            · cases r3
              · simp -implicitDefEqProofs only [go_sem, ir30, eK, vpS B1 rfl, he, vpS B2 rfl, vpS B3 rfl, vpS T1 rfl, vpS T2 rfl, vpS T3 rfl]
              · simp -implicitDefEqProofs only [go_sem, ir30, eK, vpS B1 rfl, he, vpS B2 rfl, vpS B3 rfl, vpS T1 rfl, vpS T2 rfl, vpS T3 rfl]
    · simp -implicitDefEqProofs only [go_sem, ir30, eK, vpS B1 rfl, he]
def rightB (W : Int) (t : Ten) : Bool := inB t.load 1 65536 && inB t.shadow 0 t.load && inB t.prio 0 9 && inB t.lag (-1) 1000 && (decide (1 ≤ t.allowed) && decide (t.allowed < W)) && inB t.group 0 32
def wid (c : Conf) : Int := 2 ^ c.regions.toNat
theorem wid_eq {R : Int} (h : 1 ≤ R ∧ R ≤ 4) : IntKind.wrap .i64 (1 * 2 ^ min R.toNat 64) = 2 ^ R.toNat ∧ (2 : Int) ^ R.toNat ≤ 16 ∧ (2 : Int) ≤ 2 ^ R.toNat := by
  obtain ⟨h1, h2⟩ := h
  obtain rfl | rfl | rfl | rfl : R = 1 ∨ R = 2 ∨ R = 3 ∨ R = 4 := by omega
  all_goals exact ⟨rfl, by decide, by decide⟩
theorem FV_right (c : Conf) (hr : 1 ≤ c.regions ∧ c.regions ≤ 4) (t : Ten) : FV PP shF 114 [.agg (eK c), .agg (eT t)] = some (dB (rightB (wid c) t)) := by
  obtain ⟨hs, hw1, hw2⟩ := wid_eq hr
  have nr : ¬ c.regions < 0 := by omega
  have w1 : IntKind.wrap .i64 (wid c - 1) = wid c - 1 := by unfold wid; exact w64 (by omega) (by omega)
  rw [show (2 : Int) ^ c.regions.toNat = wid c from rfl] at hs hw1 hw2
  have B1 := FV_between t.load 1 65536
  have B2 := FV_between t.shadow 0 t.load
  have B3 := FV_between t.prio 0 9
  have B4 := FV_between t.lag (-1) 1000
  have B5 := FV_between t.allowed 1 (wid c - 1)
  have B6 := FV_between t.group 0 32
  have h5 : (decide (1 ≤ t.allowed) && decide (t.allowed ≤ wid c - 1)) = (decide (1 ≤ t.allowed) && decide (t.allowed < wid c)) := by
    congr 1
    rw [Bool.eq_iff_iff]
    simp only [decide_eq_true_eq]
    omega
  rw [h5] at B5
  refine FV_ok (F_ok PP114 rfl ⟨by simp [ir114], by simp⟩ ?_)
  unfold rightB inB
  generalize (decide (1 ≤ t.load) && decide (t.load ≤ 65536)) = r1 at *
  generalize (decide (0 ≤ t.shadow) && decide (t.shadow ≤ t.load)) = r2 at *
  generalize (decide (0 ≤ t.prio) && decide (t.prio ≤ 9)) = r3 at *
  generalize (decide (-1 ≤ t.lag) && decide (t.lag ≤ 1000)) = r4 at *
  generalize (decide (1 ≤ t.allowed) && decide (t.allowed < wid c)) = r5 at *
  generalize (decide (0 ≤ t.group) && decide (t.group ≤ 32)) = r6 at *
  cases r1
  · simp -implicitDefEqProofs only [go_sem, ir114, eK, nr, hs, w1, vpS B1 rfl]
  cases r2
  · simp -implicitDefEqProofs only [go_sem, ir114, eK, nr, hs, w1, vpS B1 rfl, vpS B2 rfl]
  cases r3
  · simp -implicitDefEqProofs only [go_sem, ir114, eK, nr, hs, w1, vpS B1 rfl, vpS B2 rfl, vpS B3 rfl]
  cases r4
  · simp -implicitDefEqProofs only [go_sem, ir114, eK, nr, hs, w1, vpS B1 rfl, vpS B2 rfl, vpS B3 rfl, vpS B4 rfl]
  cases r5
  · simp -implicitDefEqProofs only [go_sem, ir114, eK, nr, hs, w1, vpS B1 rfl, vpS B2 rfl, vpS B3 rfl, vpS B4 rfl, vpS B5 rfl]
  cases r6
  · simp -implicitDefEqProofs only [go_sem, ir114, eK, nr, hs, w1, vpS B1 rfl, vpS B2 rfl, vpS B3 rfl, vpS B4 rfl, vpS B5 rfl, vpS B6 rfl]
  simp -implicitDefEqProofs only [go_sem, ir114, eK, nr, hs, w1, vpS B1 rfl, vpS B2 rfl, vpS B3 rfl, vpS B4 rfl, vpS B5 rfl, vpS B6 rfl]
def qT (c : Conf) (i : Nat) : Bool := rightB (wid c) (c.tens.getD i ⟨0, 0, 0, 0, 0, 0, false⟩)
def validT (c : Conf) : Int := if validN c = 0 then (if allN (qT c) c.tens.length = true then 0 else 1) else validN c
theorem validN_lim {c : Conf} (h : validN c = 0) : limB c = true := by
  unfold validN at h
  cases hl : limB c with
  | true => rfl
  | false => rw [hl] at h; simp at h
def L103 (c : Conf) (k : Nat) (w : VSt) : Prop := gt .bad w.E 1 = .mp 1 1 0 0 ∧ hg w.H 1 = ⟨1, 0, true, [eK c]⟩ ∧ gt .bad w.E 12 = .sl (c.tens.map eT) ∧ gt .bad w.E 13 = dI (c.tens.length : Nat) ∧ gt .bad w.E 14 = dI (k : Nat) ∧ k ≤ c.tens.length ∧ allN (qT c) k = true
theorem tvalid_l0 (c : Conf) (hc : Lens c) (hr : 1 ≤ c.regions ∧ c.regions ≤ 4) : ∀ k w, L103 c k w → Ok (R PP shF 0 23 (.loop ir103_l0) w) (fun e w => (e = .exit 0 ∧ allN (qT c) c.tens.length = true) ∨ (e = .ret ∧ allN (qT c) c.tens.length = false ∧ gt .bad w.E 2 = dI 1)) := by
  refine Ok_up c.tens.length (L103 c) fun k w hI => ?_
  obtain ⟨E, H⟩ := w
  obtain ⟨e1, h1, e12, e13, e14, hk, ha⟩ := hI
  simp only at e1 h1 e12 e13 e14
  have ht := hc.t
  have w1 : IntKind.wrap .i64 ((k : Int) + 1) = ((k + 1 : Nat) : Int) := by rw [w64 (by omega) (by omega)]; rfl
  by_cases hlt : k < c.tens.length
  · have d1 : decide ((k : Int) < (c.tens.length : Int)) = true := by simp; omega
    have q1 : (k : Int) < (c.tens.length : Int) := by omega
    have q0 : (0 : Int) ≤ (k : Int) := by omega
    have g1 := getD_at (l := c.tens) (i := k) (d := ⟨0, 0, 0, 0, 0, 0, false⟩) hlt
    have B := FV_right c hr (c.tens.getD k ⟨0, 0, 0, 0, 0, 0, false⟩)
    rw [show rightB (wid c) (c.tens.getD k ⟨0, 0, 0, 0, 0, 0, false⟩) = qT c k from rfl] at B
    cases hb : qT c k with
    | true =>
      rw [hb] at B
      simp -implicitDefEqProofs only [go_sem, ir103_l0, eK, eT, e1, h1, e12, e13, e14, d1, q0, q1, g1, w1, vpS B rfl]
      refine .next hlt ⟨?_, ?_, ?_, ?_, ?_, by omega, allN_next ha hb⟩ <;> simp -implicitDefEqProofs only [go_sem, e1, h1, e12, e13, w1, eK]
    | false =>
      rw [hb] at B
      simp -implicitDefEqProofs only [go_sem, ir103_l0, eK, eT, e1, h1, e12, e13, e14, d1, q0, q1, g1, w1, vpS B rfl]
      refine .ret (.inr ⟨rfl, allN_false hb _ hlt, ?_⟩)
      simp -implicitDefEqProofs only [go_sem, ]
  · have : k = c.tens.length := by omega
    subst this
    have d1 : decide ((c.tens.length : Int) < (c.tens.length : Int)) = false := by simp
    simp -implicitDefEqProofs only [go_sem, ir103_l0, eK, e13, e14, d1]
    exact .exit (.inl ⟨rfl, ha⟩)
theorem FV_tValid (c : Conf) (hc : Lens c) : FV PP shF 103 [.agg (eK c)] = some (dI (validT c)) := by
  have V := FV_Valid c hc
  refine FV_ok (F_ok PP103 rfl ⟨by simp [ir103], by simp⟩ ?_)
  unfold validT
  by_cases h0 : validN c = 0
  · obtain ⟨hr, _⟩ := limB_facts (validN_lim h0)
    rw [h0] at V
    have n0 : ((0 : Int) != 0) = false := rfl
    simp -implicitDefEqProofs only [go_sem, ir103, eK, vpS V rfl, h0, n0]
    refine (tvalid_l0 c hc hr 0 _ ⟨?_, ?_, ?_, ?_, ?_, by omega, rfl⟩).mono ?_ <;> (try simp -implicitDefEqProofs only [go_sem, eK])
    rintro e ⟨E, H⟩ (⟨rfl, hb⟩ | ⟨rfl, hb, e2⟩)
    · simp -implicitDefEqProofs only [go_sem, hb]
    · simp only at e2
      simp -implicitDefEqProofs only [go_sem, hb, e2]
  · have d1 : (validN c != 0) = true := by simp [h0]
    simp -implicitDefEqProofs only [go_sem, ir103, eK, vpS V rfl, d1, h0]
def inC (c : Conf) (n : Int) : Bool := decide (0 ≤ n) && decide (n < c.cells.length)
def plcB (c : Conf) (x : Plc) : Bool := ((x.home == -1) || inC c x.home) && ((x.sby == -1) || inC c x.sby)
def fitB (c : Conf) (ps : List Plc) : Bool := (validT c == 0) && ((ps.length : Int) == (c.tens.length : Int)) && ps.all (plcB c)
def L90 (p : Prob) (ps : List Plc) (i : Nat) (w : VSt) : Prop := gt .bad w.E 2 = .mp 2 1 0 0 ∧ hg w.H 2 = ⟨1, 0, true, [eQ p]⟩ ∧ gt .bad w.E 20 = .sl (ps.map eP) ∧ gt .bad w.E 21 = dI (ps.length : Nat) ∧ gt .bad w.E 22 = dI (i : Nat) ∧ i ≤ ps.length ∧ ∀ j, j < i → plcB p.conf (plc ps j) = true
theorem fit_l0 (p : Prob) (ps : List Plc) (hps : ps.length ≤ 1000) : ∀ i w, L90 p ps i w → Ok (R PP shF 0 49 (.loop ir90_l0) w) (fun e w => (e = .exit 0 ∧ ∀ j, j < ps.length → plcB p.conf (plc ps j) = true) ∨ (e = .ret ∧ gt .bad w.E 4 = dB false ∧ ∃ j, j < ps.length ∧ plcB p.conf (plc ps j) = false)) := by
  refine Ok_up ps.length _ fun i w hI => ?_
  obtain ⟨E, H⟩ := w
  obtain ⟨e2, h2, e20, e21, e22, hk, hall⟩ := hI
  simp only at e2 h2 e20 e21 e22
  have w1 : IntKind.wrap .i64 ((i : Int) + 1) = ((i + 1 : Nat) : Int) := by rw [w64 (by omega) (by omega)]; rfl
  by_cases hlt : i < ps.length
  · have d1 : decide ((i : Int) < (ps.length : Int)) = true := decide_eq_true (by omega)
    have q0 : (0 : Int) ≤ (i : Int) := by omega
    have q1 : (i : Int) < (ps.length : Int) := by omega
    have g1 : ps[i]? = some (plc ps i) := getD_at hlt
    have C1 := FV_cell p (plc ps i).home
    have C2 := FV_cell p (plc ps i).sby
    have nx : plcB p.conf (plc ps i) = true → ∀ j, j < i + 1 → plcB p.conf (plc ps j) = true := fun h j hj => by
      by_cases hji : j = i
      · rw [hji]; exact h
      · exact hall j (by omega)
    have hp : plcB p.conf (plc ps i) = ((((plc ps i).home == -1) || (decide (0 ≤ (plc ps i).home) && decide ((plc ps i).home < p.conf.cells.length))) && (((plc ps i).sby == -1) || (decide (0 ≤ (plc ps i).sby) && decide ((plc ps i).sby < p.conf.cells.length)))) := rfl
    generalize hb : plcB p.conf (plc ps i) = pb at *
    cases a1 : ((plc ps i).home == -1) with
    | true =>
      have a1' : ((plc ps i).home != -1) = false := by unfold bne; rw [a1]; rfl
      cases b1 : ((plc ps i).sby == -1) with
      | true =>
        have b1' : ((plc ps i).sby != -1) = false := by unfold bne; rw [b1]; rfl
        simp -implicitDefEqProofs only [go_sem, ir90_l0, eQ, e2, h2, e20, e21, e22, d1, q0, q1, g1, w1, a1', b1']
        refine .next hlt ⟨?_, ?_, ?_, ?_, ?_, by omega, nx (by rw [hp, a1, b1]; rfl)⟩ <;> simp -implicitDefEqProofs only [go_sem, eQ, e2, h2, e20, e21, w1]
      | false =>
        have b1' : ((plc ps i).sby != -1) = true := by unfold bne; rw [b1]; rfl
        cases b2 : (decide (0 ≤ (plc ps i).sby) && decide ((plc ps i).sby < (p.conf.cells.length : Int))) with
        | true =>
          rw [b2] at C2
          simp -implicitDefEqProofs only [go_sem, ir90_l0, eQ, e2, h2, e20, e21, e22, d1, q0, q1, g1, w1, a1', b1', vpS C2 rfl]
          refine .next hlt ⟨?_, ?_, ?_, ?_, ?_, by omega, nx (by rw [hp, a1, b1, b2]; rfl)⟩ <;> simp -implicitDefEqProofs only [go_sem, eQ, e2, h2, e20, e21, w1]
        | false =>
          rw [b2] at C2
          simp -implicitDefEqProofs only [go_sem, ir90_l0, eQ, e2, h2, e20, e21, e22, d1, q0, q1, g1, w1, a1', b1', vpS C2 rfl]
          exact .ret (.inr ⟨rfl, by simp -implicitDefEqProofs only [go_sem, ], i, hlt, by rw [hb, hp, a1, b1, b2]; rfl⟩)
    | false =>
      have a1' : ((plc ps i).home != -1) = true := by unfold bne; rw [a1]; rfl
      cases a2 : (decide (0 ≤ (plc ps i).home) && decide ((plc ps i).home < (p.conf.cells.length : Int))) with
      | false =>
        rw [a2] at C1
        simp -implicitDefEqProofs only [go_sem, ir90_l0, eQ, e2, h2, e20, e21, e22, d1, q0, q1, g1, w1, a1', vpS C1 rfl]
        exact .ret (.inr ⟨rfl, by simp -implicitDefEqProofs only [go_sem, ], i, hlt, by rw [hb, hp, a1, a2]; rfl⟩)
      | true =>
        rw [a2] at C1
        cases b1 : ((plc ps i).sby == -1) with
        | true =>
          have b1' : ((plc ps i).sby != -1) = false := by unfold bne; rw [b1]; rfl
          simp -implicitDefEqProofs only [go_sem, ir90_l0, eQ, e2, h2, e20, e21, e22, d1, q0, q1, g1, w1, a1', b1', vpS C1 rfl]
          refine .next hlt ⟨?_, ?_, ?_, ?_, ?_, by omega, nx (by rw [hp, a1, a2, b1]; rfl)⟩ <;> simp -implicitDefEqProofs only [go_sem, eQ, e2, h2, e20, e21, w1]
        | false =>
          have b1' : ((plc ps i).sby != -1) = true := by unfold bne; rw [b1]; rfl
          cases b2 : (decide (0 ≤ (plc ps i).sby) && decide ((plc ps i).sby < (p.conf.cells.length : Int))) with
          | true =>
            rw [b2] at C2
            simp -implicitDefEqProofs only [go_sem, ir90_l0, eQ, e2, h2, e20, e21, e22, d1, q0, q1, g1, w1, a1', b1', vpS C1 rfl, vpS C2 rfl]
            refine .next hlt ⟨?_, ?_, ?_, ?_, ?_, by omega, nx (by rw [hp, a1, a2, b1, b2]; rfl)⟩ <;> simp -implicitDefEqProofs only [go_sem, eQ, e2, h2, e20, e21, w1]
          | false =>
            rw [b2] at C2
            simp -implicitDefEqProofs only [go_sem, ir90_l0, eQ, e2, h2, e20, e21, e22, d1, q0, q1, g1, w1, a1', b1', vpS C1 rfl, vpS C2 rfl]
            exact .ret (.inr ⟨rfl, by simp -implicitDefEqProofs only [go_sem, ], i, hlt, by rw [hb, hp, a1, a2, b1, b2]; rfl⟩)
  · have hkl : i = ps.length := by omega
    have d1 : decide ((i : Int) < (ps.length : Int)) = false := decide_eq_false (by omega)
    simp -implicitDefEqProofs only [go_sem, ir90_l0, e21, e22, d1]
    subst hkl
    exact .exit (.inl ⟨rfl, hall⟩)
theorem all_plc {c : Conf} {ps : List Plc} : (ps.all (plcB c) = true ↔ ∀ j, j < ps.length → plcB c (plc ps j) = true) := by
  rw [List.all_eq_true]
  constructor
  · intro h j hj; exact h _ (List.mem_of_getElem? (getD_at (l := ps) (i := j) (d := ⟨0, 0⟩) hj))
  · intro h x hx
    obtain ⟨j, hj, rfl⟩ := List.mem_iff_getElem.1 hx
    have := h j hj
    unfold plc at this
    rwa [List.getD_eq_getElem?_getD, List.getElem?_eq_getElem hj] at this
theorem FV_Fit (p : Prob) (hc : Lens p.conf) (ps : List Plc) (hps : ps.length ≤ 1000) : FV PP shF 90 [.agg (eQ p), .sl (ps.map eP)] = some (dB (fitB p.conf ps)) := by
  refine FV_ok (F_ok PP90 rfl ⟨by simp [ir90], by simp⟩ ?_)
  have V := FV_tValid p.conf hc
  unfold fitB
  cases v : (validT p.conf == 0) with
  | false =>
    have v' : (validT p.conf != 0) = true := by unfold bne; rw [v]; rfl
    simp -implicitDefEqProofs only [go_sem, ir90, eQ, eK, vpS V rfl, v']
  | true =>
    have v' : (validT p.conf != 0) = false := by unfold bne; rw [v]; rfl
    cases l : ((ps.length : Int) == (p.conf.tens.length : Int)) with
    | false =>
      have l' : ((ps.length : Int) != (p.conf.tens.length : Int)) = true := by unfold bne; rw [l]; rfl
      simp -implicitDefEqProofs only [go_sem, ir90, eQ, eK, vpS V rfl, v', l']
    | true =>
      have l' : ((ps.length : Int) != (p.conf.tens.length : Int)) = false := by unfold bne; rw [l]; rfl
      simp -implicitDefEqProofs only [go_sem, ir90, eQ, eK, vpS V rfl, v', l']
      refine (fit_l0 p ps hps 0 _ ⟨?_, ?_, ?_, ?_, ?_, by omega, fun j hj => by omega⟩).mono ?_ <;> (try simp -implicitDefEqProofs only [go_sem, eQ])
      rintro e ⟨E, H⟩ (⟨rfl, h⟩ | ⟨rfl, e4, j, hj, h⟩)
      · rw [all_plc.2 h]
        simp -implicitDefEqProofs only [go_sem, ]
      · have : ps.all (plcB p.conf) = false := by
          cases ha : ps.all (plcB p.conf) with
          | false => rfl
          | true => rw [all_plc.1 ha j hj] at h; simp at h
        rw [this]
        simp only at e4
        simp -implicitDefEqProofs only [go_sem, e4]
theorem FV_run (k : Nat) {g : Nat} (h : (vmach PP shF k g [] [] 0).map (·.1) = some (dB true)) : FV PP shF g [] = some (dB true) := by
  simp only [Option.map_eq_some_iff] at h
  obtain ⟨⟨d, H⟩, h1, h2⟩ := h
  simp only at h2; subst h2
  exact FV_B (F_of k h1)
theorem allN_true {q : Nat → Bool} : ∀ n : Nat, (∀ i, i < n → q i = true) → allN q n = true
  | 0, _ => rfl
  | n + 1, h => by simp only [allN, allN_true n (fun i hi => h i (by omega)), h n (by omega), Bool.and_self]
theorem inB_true {n lo hi : Int} (h : lo ≤ n ∧ n ≤ hi) : inB n lo hi = true := by unfold inB; rw [decide_eq_true h.1, decide_eq_true h.2]; rfl
theorem ConfOk.valid {c : Conf} (hc : ConfOk c) : validN c = 0 := by
  have r0 := hc.r0
  have r1 := hc.r1
  have z0 := hc.z0
  have z1 := hc.z1
  have c0 := hc.c0
  have c1 := hc.c1
  have t1 := hc.t1
  have v1 := hc.v1
  have v0 := List.length_pos_iff.2 hc.v0
  have o0 := hc.o0
  have o1 := hc.o1
  have hl : limB c = true := by
    unfold limB
    rw [inB_true ⟨by omega, by omega⟩, inB_true ⟨by omega, by omega⟩, inB_true ⟨by omega, by omega⟩, inB_true ⟨by omega, by omega⟩, inB_true (n := (c.reps.length : Int)) ⟨by rcases hc.ps with h | h <;> omega, by rcases hc.ps with h | h <;> omega⟩, inB_true ⟨by omega, by omega⟩, decide_eq_true (by omega)]
    rfl
  have he : evenB c = false := by
    unfold evenB
    rcases hc.ps with h | h <;> rw [h] <;> rfl
  have hz : ∀ l : List Int, (∀ z, z ∈ l → 0 ≤ z ∧ z < (c.zones.length : Int)) → zonesB c l = true := fun l h => allN_true _ fun i hi => by
    have g := getD_at (l := l) (i := i) (d := 0) hi
    have := h _ (List.mem_of_getElem? g)
    exact inB_true ⟨by omega, by omega⟩
  have hp : placedB c = true := by
    unfold placedB
    rw [hz _ hc.pz, hz _ hc.oz, allN_true _ (fun i hi => ?_), allN_true _ (fun i hi => ?_)]
    · rfl
    · have g := getD_at (l := c.cells) (i := i) (d := ⟨0, 0⟩) hi
      have := hc.cs _ (List.mem_of_getElem? g)
      unfold qC
      rw [inB_true ⟨by omega, by omega⟩, inB_true ⟨by omega, by omega⟩]; rfl
    · have g := getD_at (l := c.zones) (i := i) (d := 0) hi
      have := hc.zs _ (List.mem_of_getElem? g)
      exact inB_true ⟨by omega, by omega⟩
  have hv : versB c = true := by
    unfold versB
    have g0 := getD_at (l := c.vers) (i := 0) (d := ⟨0, 0⟩) v0
    have hf : firstB c = true := by
      unfold firstB
      rw [hc.vh (c.vers.getD 0 ⟨0, 0⟩) (by rw [← g0, List.head?_eq_getElem?])]
      rfl
    rw [hf, allN_true _ (fun i hi => ?_)]
    · rfl
    · have g := getD_at (l := c.vers) (i := i) (d := ⟨0, 0⟩) hi
      have := hc.vs _ (List.mem_of_getElem? g)
      unfold qV
      have x1 := this.l1
      have x2 := this.h1
      rw [decide_eq_true this.l0, decide_eq_true this.h0, decide_eq_true (by omega)]
      rfl
  have hr : restB c = true := by
    unfold restB
    have := hc.b0
    have := hc.b1
    have := hc.l0
    have := hc.l1
    have := hc.k0
    have := hc.k1
    rw [inB_true ⟨by omega, by omega⟩, inB_true ⟨by omega, by omega⟩, inB_true ⟨by omega, by omega⟩]; rfl
  unfold validN okB4
  rw [hl, he, hp, hv, hr]; rfl
theorem FV_awake17 : FV PP shF 89 [] = some (dB true) := FV_run 60 (by kernel_rfl)
theorem ConfOk.validT {c : Conf} (hc : ConfOk c) : Cp.validT c = 0 := by
  have r0 := hc.r0
  have r1 := hc.r1
  unfold Cp.validT
  rw [hc.valid, if_pos rfl, allN_true _ (fun i hi => ?_)]
  · rfl
  · have g := getD_at (l := c.tens) (i := i) (d := ⟨0, 0, 0, 0, 0, 0, false⟩) hi
    have h := hc.ts _ (List.mem_of_getElem? g)
    have a0 := h.l0
    have a1 := h.l1
    have a2 := h.s0
    have a3 := h.s1
    have a4 := h.p0
    have a5 := h.p1
    have a6 := h.g0
    have a7 := h.g1
    have a8 := h.a0
    have a9 := h.a1
    have b0 := h.u0
    have b1 := h.u1
    have hw : allR c.regions < wid c := by
      unfold wid
      obtain hh | hh | hh : c.regions = 1 ∨ c.regions = 2 ∨ c.regions = 3 := by omega
      all_goals (rw [hh]; decide)
    unfold qT rightB
    rw [inB_true ⟨by omega, by omega⟩, inB_true ⟨by omega, by omega⟩, inB_true ⟨by omega, by omega⟩, inB_true ⟨by omega, by omega⟩, inB_true ⟨by omega, by omega⟩, decide_eq_true (by omega), decide_eq_true (by omega)]
    rfl
theorem fit_iff {c : Conf} (hc : ConfOk c) (ps : List Plc) : fitB c ps = true ↔ FitP c ps := by
  unfold fitB FitP
  rw [hc.validT]
  simp only [beq_self_eq_true, Bool.true_and, Bool.and_eq_true, beq_iff_eq]
  constructor
  · rintro ⟨h1, h2⟩
    refine ⟨by omega, fun x hx => ?_⟩
    have := List.all_eq_true.1 h2 x hx
    unfold plcB inC at this
    simp at this
    exact ⟨by omega, by omega, by omega, by omega⟩
  · rintro ⟨h1, h2⟩
    refine ⟨by omega, List.all_eq_true.2 fun x hx => ?_⟩
    have := h2 x hx
    have a := this.h0; have b := this.h1; have d := this.s0; have e := this.s1
    unfold plcB inC
    simp
    omega
theorem FVF_Partial (p : Prob) (hc : ConfOk p.conf) (ps : List Plc) (hps : ps.length ≤ 1000) : FVF PP shF 93 [.agg (eQ p), .sl (ps.map eP)] (.sl ((if fitB p.conf ps = true then partL p ps else []).map eB)) := by
  refine FVF_ok (F_ok PP93 rfl ⟨by simp [ir93], by simp⟩ ?_)
  have K := FV_Fit p hc.lens ps hps
  cases hf : fitB p.conf ps with
  | false =>
    rw [hf] at K
    simp -implicitDefEqProofs only [go_sem, ir93, eQ, vpS K rfl]
    rfl
  | true =>
    rw [hf] at K
    have hfit := (fit_iff hc ps).1 hf
    have A : ∀ (H : VHeap) (b : Nat), hg H 13 = ⟨1, 0, true, [fdr p ps (.lit (.slice none 0 0))]⟩ → H.length ≤ b → 20 ≤ b → F PP shF 105 [.mp 13 1 0 0] H b = some (.tup [], FH 105 [.mp 13 1 0 0] H b) ∧ ∃ bo ov, hg (FH 105 [.mp 13 1 0 0] H b) 13 = ⟨1, 0, true, [fdr p ps ov]⟩ ∧ SlB (FH 105 [.mp 13 1 0 0] H b) bo 5 ((partL p ps).map eB) ov := by
      intro H b h1 h2 h3
      have := FH_eq (partial_ok p hc ps hfit [] (by simp) H b 13 1 0 (.lit (.slice none 0 0)) h2 h1 SlB.nil (by decide) (by omega) (by omega))
      obtain ⟨e1, bo, ov, c1, c2, _⟩ := this
      exact ⟨e1, bo, ov, c1, by simpa using c2⟩
    have A1 := fun H b h1 h2 h3 => (A H b h1 h2 h3).1
    simp -implicitDefEqProofs only [go_sem, ir93, eQ, vpS K rfl, A1]
    obtain ⟨_, bo, ov, c1, c2⟩ := A (hs (hs [] 2 ⟨1, 0, true, [eQ p]⟩) 13 ⟨1, 0, true, [fdr p ps (.lit (.slice none 0 0))]⟩) (max (max (max 0 3) 14) 20) (by simp -implicitDefEqProofs only [go_sem, ]) (by simp [hs_len]) (by decide)
    generalize FH 105 _ _ _ = H' at c1 c2 ⊢
    simp -implicitDefEqProofs only [go_sem, c1]
    exact ⟨c2.frz (by decide) (closed_eB _) 5, c2.fresh (by decide) (lits_eB _) 4⟩
theorem w0L : ∀ n : Nat, n ≤ 1000000 → IntKind.wrap .i64 ((n : Int) + 1) = ((n + 1 : Nat) : Int) := fun n h => by rw [w64 (by omega) (by omega)]; rfl
theorem getD_mem {α : Type} {l : List α} {i : Nat} {d : α} (h : i < l.length) : l.getD i d ∈ l := by
  rw [List.getD_eq_getElem?_getD, List.getElem?_eq_getElem h]; exact List.getElem_mem h
def cnt (r : Int) (L : List Brk) : Nat := L.countP (fun x => x.rule == r)
theorem cnt_app (r : Int) (L M : List Brk) : cnt r (L ++ M) = cnt r L + cnt r M := List.countP_append
theorem cnt_take (r : Int) (L : List Brk) (k : Nat) (h : k < L.length) : cnt r (L.take (k + 1)) = cnt r (L.take k) + if (L.getD k ⟨0, 0, 0, 0, 0⟩).rule = r then 1 else 0 := by
  have g := getD_at (l := L) (i := k) (d := ⟨0, 0, 0, 0, 0⟩) h
  rw [List.take_add_one, g, cnt_app]
  simp [cnt, List.countP_cons]
theorem cnt_le (r : Int) (L : List Brk) : cnt r L ≤ L.length := List.countP_le_length
theorem cnt_all {r : Int} {L : List Brk} (h : ∀ y ∈ L, y.rule = r) : cnt r L = L.length := by
  unfold cnt; rw [List.countP_eq_length]; intro a ha; simp [h a ha]
theorem cnt_none {r s : Int} {L : List Brk} (h : ∀ y ∈ L, y.rule = s) (hrs : s ≠ r) : cnt r L = 0 := by
  unfold cnt; rw [List.countP_eq_zero]; intro a ha; simp [h a ha, hrs]
theorem oneK_rule (rule : Int) (h : Int → Int → Bool) (i : Int) (x : Plc) : ∀ n, ∀ y ∈ oneK rule h i x n, y.rule = rule
  | 0 => by simp [oneK]
  | n + 1 => by
    intro y hy
    rcases List.mem_append.1 hy with h1 | h1
    · exact oneK_rule rule h i x n y h1
    · unfold oneX at h1; split at h1 <;> simp at h1; subst h1; rfl
theorem oneL_rule (rule : Int) (h : Int → Int → Bool) (ps : List Plc) : ∀ n, ∀ y ∈ oneL rule h ps n, y.rule = rule
  | 0 => by simp [oneL]
  | n + 1 => by
    intro y hy
    rcases List.mem_append.1 hy with h1 | h1
    · exact oneL_rule rule h ps n y h1
    · exact oneK_rule _ _ _ _ _ y h1
theorem apL_rule (c : Conf) (ps : List Plc) : ∀ n, ∀ y ∈ apL c ps n, y.rule = 5
  | 0 => by simp [apL]
  | n + 1 => by
    intro y hy
    rcases List.mem_append.1 hy with h1 | h1
    · exact apL_rule c ps n y h1
    · unfold apX at h1; split at h1 <;> simp at h1; subst h1; rfl
theorem prK_rule (rule : Int) (g : Nat → Nat → Bool) (ps : List Plc) (i : Nat) : ∀ n, ∀ y ∈ prK rule g ps i n, y.rule = rule
  | 0 => by simp [prK]
  | n + 1 => by
    intro y hy
    rcases List.mem_append.1 hy with h1 | h1
    · exact prK_rule rule g ps i n y h1
    · unfold prX at h1; split at h1 <;> simp at h1; subst h1; rfl
theorem prL_rule (rule : Int) (g : Nat → Nat → Bool) (ps : List Plc) : ∀ n, ∀ y ∈ prL rule g ps n, y.rule = rule
  | 0 => by simp [prL]
  | n + 1 => by
    intro y hy
    rcases List.mem_append.1 hy with h1 | h1
    · exact prL_rule rule g ps n y h1
    · exact prK_rule _ _ _ _ _ y h1
theorem cpL_all (c : Conf) (bk : List Int) : ∀ n, ∀ y ∈ cpL c bk n, y.rule = 8 ∧ ∃ i : Nat, y.cell = i ∧ i < n ∧ bk.getD i 0 > capI c i
  | 0 => by simp [cpL]
  | n + 1 => by
    intro y hy
    rcases List.mem_append.1 hy with h1 | h1
    · obtain ⟨a, i, b, c, d⟩ := cpL_all c bk n y h1
      exact ⟨a, i, b, by omega, d⟩
    · unfold cpX at h1
      split at h1
      · rename_i hx
        simp at h1; subst h1; exact ⟨rfl, n, rfl, by omega, hx⟩
      · simp at h1
def one3 (p : Prob) (ps : List Plc) (n : Nat) : List Brk := oneL 3 (fun _ n => bit p.cells n) ps n
def bkd (p : Prob) (ps : List Plc) : List Int := booked p.conf ps ps.length
theorem cap_facts {p : Prob} (hh : p.head = false) (ps : List Plc) : cnt 8 (partL p ps) = (cpL p.conf (bkd p ps) p.conf.cells.length).length ∧ cnt 3 (partL p ps) = (one3 p ps ps.length).length ∧
    ∀ y ∈ partL p ps, y.rule = 8 → ∃ i : Nat, y.cell = i ∧ i < p.conf.cells.length ∧ (bkd p ps).getD i 0 > capI p.conf i := by
  unfold partL one3 bkd
  rw [hh, if_neg (by simp), List.append_nil]
  simp only [cnt_app]
  have a1 := oneL_rule 3 (fun _ n => bit p.cells n) ps ps.length
  have a2 := oneL_rule 4 (fun i n => mayB p.conf i n) ps ps.length
  have a3 := apL_rule p.conf ps ps.length
  have a4 := prL_rule 6 (grpB p.conf ps) ps ps.length
  have a5 := prL_rule 7 (nsyB p.conf ps) ps ps.length
  have a6 := cpL_all p.conf (booked p.conf ps ps.length) p.conf.cells.length
  have a6' : ∀ y ∈ cpL p.conf (booked p.conf ps ps.length) p.conf.cells.length, y.rule = 8 := fun y hy => (a6 y hy).1
  refine ⟨?_, ?_, ?_⟩
  · rw [cnt_none a1 (by decide), cnt_none a2 (by decide), cnt_none a3 (by decide), cnt_none a4 (by decide), cnt_none a5 (by decide), cnt_all a6']; omega
  · rw [cnt_all a1, cnt_none a2 (by decide), cnt_none a3 (by decide), cnt_none a4 (by decide), cnt_none a5 (by decide), cnt_none a6' (by decide)]; omega
  · intro y hy h8
    simp only [List.mem_append] at hy
    rcases hy with ((((h | h) | h) | h) | h) | h
    · have := a1 y h; omega
    · have := a2 y h; omega
    · have := a3 y h; omega
    · have := a4 y h; omega
    · have := a5 y h; omega
    · exact (a6 y h).2
def L87 (p : Prob) (ps : List Plc) (a b : Int) (w : VSt) : Prop := gt .bad w.E 7 = .mp 7 1 0 0 ∧ hg w.H 7 = ⟨1, 0, true, [eQ p]⟩ ∧ gt .bad w.E 8 = .sl (ps.map eP) ∧ gt .bad w.E 9 = .sl ((bkd p ps).map eI) ∧ gt .bad w.E 11 = dI a ∧ gt .bad w.E 12 = dI b
theorem cap87_l0 (p : Prob) (ps : List Plc) (L : List Brk) (hL : L.length ≤ 1000) (hb : (bkd p ps).length = p.conf.cells.length) (h8 : ∀ y ∈ L, y.rule = 8 → ∃ i : Nat, y.cell = i ∧ i < p.conf.cells.length ∧ (bkd p ps).getD i 0 > capI p.conf i) :
    ∀ k w, (L87 p ps (cnt 8 (L.take k) : Nat) (cnt 3 (L.take k) : Nat) w ∧ gt .bad w.E 10 = .sl (L.map eB) ∧ gt .bad w.E 13 = dI (k : Nat) ∧ k ≤ L.length) → Ok (R PP shF 0 166 (.loop ir87_l0) w) (fun e w => e = .exit 0 ∧ L87 p ps (cnt 8 L : Nat) (cnt 3 L : Nat) w) := by
  refine Ok_up L.length (fun k w => L87 p ps (cnt 8 (L.take k) : Nat) (cnt 3 (L.take k) : Nat) w ∧ gt .bad w.E 10 = .sl (L.map eB) ∧ gt .bad w.E 13 = dI (k : Nat) ∧ k ≤ L.length) fun k w hI => ?_
  obtain ⟨E, H⟩ := w
  obtain ⟨⟨e7, h7, e8, e9, e11, e12⟩, e10, e13, hk⟩ := hI
  simp only at e7 h7 e8 e9 e11 e12 e10 e13
  have w1 := w0L k (by omega)
  by_cases hlt : k < L.length
  · have d1 : decide ((k : Int) < (L.length : Int)) = true := decide_eq_true (by omega)
    have q0 : (0 : Int) ≤ (k : Int) := by omega
    have q1 : (k : Int) < (L.length : Int) := by omega
    have g1 := getD_at (l := L) (i := k) (d := ⟨0, 0, 0, 0, 0⟩) (by omega)
    have hm : L.getD k ⟨0, 0, 0, 0, 0⟩ ∈ L := getD_mem hlt
    have c8 := cnt_take 8 L k hlt
    have c3 := cnt_take 3 L k hlt
    have b8 := cnt_le 8 (L.take k)
    have b3 := cnt_le 3 (L.take k)
    have hlt2 : (L.take k).length ≤ 1000 := by rw [List.length_take]; omega
    have w2 := w0L (cnt 8 (L.take k)) (by omega)
    have w3 := w0L (cnt 3 (L.take k)) (by omega)
    generalize L.getD k ⟨0, 0, 0, 0, 0⟩ = x at *
    by_cases f8 : x.rule = 8
    · rw [if_pos f8] at c8
      rw [if_neg (by omega)] at c3
      obtain ⟨i, x1, x2, x3⟩ := h8 x hm f8
      have f1 : ((8 : Int) == 8) = true := rfl
      have i0 : decide ((i : Int) < 0) = false := decide_eq_false (by omega)
      have i1 : decide (((bkd p ps).length : Int) ≤ (i : Int)) = false := decide_eq_false (by omega)
      have i2 : (0 : Int) ≤ (i : Int) := by omega
      have i3 : (i : Int) < ((bkd p ps).length : Int) := by omega
      have i4 : (i : Int) < (p.conf.cells.length : Int) := by omega
      have g2 := getD_at (l := bkd p ps) (i := i) (d := 0) (by omega)
      have g3 := getD_at (l := p.conf.cells) (i := i) (d := ⟨0, 0⟩) (by omega)
      have i5 : decide ((bkd p ps).getD i 0 ≤ (p.conf.cells.getD i ⟨0, 0⟩).cap) = false := decide_eq_false (by have : capI p.conf i = (p.conf.cells.getD i ⟨0, 0⟩).cap := rfl; omega)
      simp -implicitDefEqProofs only [go_sem, ir87_l0, eQ, e7, h7, e9, e10, e11, e13, d1, q0, q1, g1, w1, w2, f8, f1, x1, i0, i1, i2, i3, i4, i5, g2, g3]
      refine .next hlt ⟨⟨?_, ?_, ?_, ?_, ?_, ?_⟩, ?_, ?_, by omega⟩ <;> simp -implicitDefEqProofs only [go_sem, eQ, e7, h7, e8, e9, e10, e12, w1, c8, c3]
    · rw [if_neg f8] at c8
      have f1 : (x.rule == 8) = false := by simpa using f8
      by_cases f3 : x.rule = 3
      · rw [if_pos f3] at c3
        have f2 : ((3 : Int) == 3) = true := rfl
        have f4 : ((3 : Int) == 8) = false := rfl
        simp -implicitDefEqProofs only [go_sem, ir87_l0, eQ, e7, h7, e9, e10, e12, e13, d1, q0, q1, g1, w1, w3, f3, f2, f4]
        refine .next hlt ⟨⟨?_, ?_, ?_, ?_, ?_, ?_⟩, ?_, ?_, by omega⟩ <;> simp -implicitDefEqProofs only [go_sem, eQ, e7, h7, e8, e9, e10, e11, w1, c8, c3]
      · rw [if_neg f3] at c3
        have f2 : (x.rule == 3) = false := by simpa using f3
        simp -implicitDefEqProofs only [go_sem, ir87_l0, eQ, e7, h7, e9, e10, e12, e13, d1, q0, q1, g1, w1, f1, f2]
        refine .next hlt ⟨⟨?_, ?_, ?_, ?_, ?_, ?_⟩, ?_, ?_, by omega⟩ <;> simp -implicitDefEqProofs only [go_sem, eQ, e7, h7, e8, e9, e10, e11, e12, w1, c8, c3]
  · have hkl : k = L.length := by omega
    have d1 : decide ((k : Int) < (L.length : Int)) = false := decide_eq_false (by omega)
    rw [hkl, List.take_length] at e11 e12
    simp -implicitDefEqProofs only [go_sem, ir87_l0, e10, e13, d1]
    refine .exit ⟨rfl, ?_, h7, ?_, ?_, ?_, ?_⟩ <;> simp -implicitDefEqProofs only [go_sem, e7, e8, e9, e11, e12]
theorem cap87_l1 (p : Prob) (ps : List Plc) (b : Int) (n : Nat) (hc : p.conf.cells.length ≤ 100) (hb : (bkd p ps).length = p.conf.cells.length) (hn : n = (cpL p.conf (bkd p ps) p.conf.cells.length).length) :
    ∀ k w, (L87 p ps ((n : Int) - ((cpL p.conf (bkd p ps) k).length : Nat)) b w ∧ gt .bad w.E 15 = dI (k : Nat) ∧ k ≤ p.conf.cells.length) → Ok (R PP shF 0 166 (.loop ir87_l1) w) (fun e w => e = .exit 3 ∧ L87 p ps 0 b w) := by
  refine Ok_up p.conf.cells.length (fun k w => L87 p ps ((n : Int) - ((cpL p.conf (bkd p ps) k).length : Nat)) b w ∧ gt .bad w.E 15 = dI (k : Nat) ∧ k ≤ p.conf.cells.length) fun k w hI => ?_
  obtain ⟨E, H⟩ := w
  obtain ⟨⟨e7, h7, e8, e9, e11, e12⟩, e15, hk⟩ := hI
  simp only at e7 h7 e8 e9 e11 e12 e15
  have w1 := w0L k (by omega)
  by_cases hlt : k < p.conf.cells.length
  · have d1 : decide ((k : Int) < ((bkd p ps).length : Int)) = true := decide_eq_true (by omega)
    have q0 : (0 : Int) ≤ (k : Int) := by omega
    have q1 : (k : Int) < ((bkd p ps).length : Int) := by omega
    have q2 : (k : Int) < (p.conf.cells.length : Int) := by omega
    have g2 := getD_at (l := bkd p ps) (i := k) (d := 0) (by omega)
    have g3 := getD_at (l := p.conf.cells) (i := k) (d := ⟨0, 0⟩) (by omega)
    have hK : cpL p.conf (bkd p ps) (k + 1) = cpL p.conf (bkd p ps) k ++ cpX p.conf (bkd p ps) k := rfl
    have l1 := cpL_len p.conf (bkd p ps) k
    have l2 := cpL_len p.conf (bkd p ps) p.conf.cells.length
    have hcp : capI p.conf k = (p.conf.cells.getD k ⟨0, 0⟩).cap := rfl
    by_cases hx : (bkd p ps).getD k 0 > capI p.conf k
    · have f1 : decide ((p.conf.cells.getD k ⟨0, 0⟩).cap < (bkd p ps).getD k 0) = true := decide_eq_true (by omega)
      have hX : cpX p.conf (bkd p ps) k = [⟨8, -1, -1, k, -1⟩] := by unfold cpX; rw [if_pos hx]
      rw [hX] at hK
      have hKl : (cpL p.conf (bkd p ps) (k + 1)).length = (cpL p.conf (bkd p ps) k).length + 1 := by rw [hK, List.length_append]; rfl
      have w2 : IntKind.wrap .i64 ((n : Int) - ((cpL p.conf (bkd p ps) k).length : Nat) - 1) = (n : Int) - ((cpL p.conf (bkd p ps) (k + 1)).length : Nat) := by rw [w64 (by omega) (by omega)]; omega
      simp -implicitDefEqProofs only [go_sem, ir87_l1, eQ, e7, h7, e9, e11, e15, d1, q0, q1, q2, g2, g3, w1, w2, f1]
      refine .next hlt ⟨⟨?_, ?_, ?_, ?_, ?_, ?_⟩, ?_, by omega⟩ <;> simp -implicitDefEqProofs only [go_sem, eQ, e7, h7, e8, e9, e12, w1]
    · have f1 : decide ((p.conf.cells.getD k ⟨0, 0⟩).cap < (bkd p ps).getD k 0) = false := decide_eq_false (by omega)
      have hX : cpX p.conf (bkd p ps) k = [] := by unfold cpX; rw [if_neg hx]
      rw [hX, List.append_nil] at hK
      simp -implicitDefEqProofs only [go_sem, ir87_l1, eQ, e7, h7, e9, e11, e15, d1, q0, q1, q2, g2, g3, w1, f1]
      refine .next hlt ⟨⟨?_, ?_, ?_, ?_, ?_, ?_⟩, ?_, by omega⟩ <;> simp -implicitDefEqProofs only [go_sem, eQ, e7, h7, e8, e9, e11, e12, w1, hK]
  · have hkl : k = p.conf.cells.length := by omega
    have d1 : decide ((k : Int) < ((bkd p ps).length : Int)) = false := decide_eq_false (by omega)
    have hz : (n : Int) - ((cpL p.conf (bkd p ps) k).length : Nat) = 0 := by rw [hkl, hn]; omega
    rw [hz] at e11
    simp -implicitDefEqProofs only [go_sem, ir87_l1, e9, e15, d1]
    refine .exit ⟨rfl, ?_, h7, ?_, ?_, ?_, ?_⟩ <;> simp -implicitDefEqProofs only [go_sem, e7, e8, e9, e11, e12]
theorem has_bit {c : Conf} (hc : ConfOk c) (s : Int) {i : Int} (h0 : 0 ≤ i) (h1 : i < c.cells.length) : has s i = bit s i := by
  have := hc.c1
  unfold has
  rw [decide_eq_true h0, decide_eq_true (show i < 62 by omega)]; rfl
theorem one3_step (p : Prob) (ps : List Plc) (k : Nat) : (one3 p ps (k + 1)).length = (one3 p ps k).length + (oneX 3 (fun _ n => bit p.cells n) (k : Nat) (plc ps k).home).length + (oneX 3 (fun _ n => bit p.cells n) (k : Nat) (plc ps k).sby).length := by
  unfold one3
  simp only [oneL, oneK, List.length_append, two2]
  simp; omega
def L87b (p : Prob) (ps : List Plc) (b : Int) (w : VSt) : Prop := gt .bad w.E 7 = .mp 7 1 0 0 ∧ hg w.H 7 = ⟨1, 0, true, [eQ p]⟩ ∧ gt .bad w.E 8 = .sl (ps.map eP) ∧ gt .bad w.E 11 = dI 0 ∧ gt .bad w.E 12 = dI b
/-- What one place subtracts. -/
theorem one_fact {p : Prob} (hc : ConfOk p.conf) (i n : Int) (h0 : -1 ≤ n) (h1 : n < p.conf.cells.length) :
    (n < 0 ∧ (oneX 3 (fun _ n => bit p.cells n) i n).length = 0) ∨ (0 ≤ n ∧ has p.cells n = true ∧ (oneX 3 (fun _ n => bit p.cells n) i n).length = 0) ∨ (0 ≤ n ∧ has p.cells n = false ∧ (oneX 3 (fun _ n => bit p.cells n) i n).length = 1) := by
  unfold oneX
  by_cases h : n = -1
  · exact .inl ⟨by omega, by rw [if_neg (fun a => a.1 h)]; rfl⟩
  · have hb := has_bit hc p.cells (i := n) (by omega) h1
    cases hh : bit p.cells n with
    | true => exact .inr (.inl ⟨by omega, by rw [hb, hh], by rw [if_neg (fun a => by have := a.2; simp only at this; rw [hh] at this; cases this)]; rfl⟩)
    | false => exact .inr (.inr ⟨by omega, by rw [hb, hh], by rw [if_pos ⟨h, hh⟩]; rfl⟩)
theorem cap87_l2 (p : Prob) (hc : ConfOk p.conf) (ps : List Plc) (hfit : FitP p.conf ps) (n : Nat) (hps : ps.length ≤ 100) (hn : n = (one3 p ps ps.length).length) :
    ∀ k w, (L87b p ps ((n : Int) - ((one3 p ps k).length : Nat)) w ∧ gt .bad w.E 16 = dI (k : Nat) ∧ k ≤ ps.length) → Ok (R PP shF 0 166 (.loop ir87_l2) w) (fun e w => e = .exit 5 ∧ gt .bad w.E 11 = dI 0 ∧ gt .bad w.E 12 = dI 0) := by
  refine Ok_up ps.length (fun k w => L87b p ps ((n : Int) - ((one3 p ps k).length : Nat)) w ∧ gt .bad w.E 16 = dI (k : Nat) ∧ k ≤ ps.length) fun k w hI => ?_
  obtain ⟨E, H⟩ := w
  obtain ⟨⟨e7, h7, e8, e11, e12⟩, e16, hk⟩ := hI
  simp only at e7 h7 e8 e11 e12 e16
  have w1 := w0L k (by omega)
  by_cases hlt : k < ps.length
  · have d1 : decide ((k : Int) < (ps.length : Int)) = true := decide_eq_true (by omega)
    have q0 : (0 : Int) ≤ (k : Int) := by omega
    have q1 : (k : Int) < (ps.length : Int) := by omega
    have g1 : ps[k]? = some (plc ps k) := getD_at hlt
    have t0 := two_lo hfit hlt 0
    have t1 := two_lo hfit hlt 1
    rw [show two2 (plc ps k) 0 = (plc ps k).home from rfl] at t0
    rw [show two2 (plc ps k) 1 = (plc ps k).sby from rfl] at t1
    have hK := one3_step p ps k
    have l1 : (one3 p ps k).length ≤ 2 * k := oneL_len 3 _ ps k
    have l2 : n ≤ 2 * ps.length := by rw [hn]; exact oneL_len 3 _ ps ps.length
    have B1 := FV_Has p.cells (plc ps k).home
    have B2 := FV_Has p.cells (plc ps k).sby
    have w2 : ∀ v : Int, -1000 ≤ v → v ≤ 1000 → IntKind.wrap .i64 (v - 1) = v - 1 := fun v a b => w64 (by omega) (by omega)
    have wa := w2 ((n : Int) - ((one3 p ps k).length : Nat)) (by omega) (by omega)
    have wb := w2 ((n : Int) - ((one3 p ps k).length : Nat) - 1) (by omega) (by omega)
    rcases one_fact hc (k : Nat) (plc ps k).home t0.1 t0.2 with ⟨a1, a2⟩ | ⟨a1, a3, a2⟩ | ⟨a1, a3, a2⟩
    · have f1 : decide (0 ≤ (plc ps k).home) = false := decide_eq_false (by omega)
      rcases one_fact hc (k : Nat) (plc ps k).sby t1.1 t1.2 with ⟨b1, b2⟩ | ⟨b1, b3, b2⟩ | ⟨b1, b3, b2⟩
      · have f2 : decide (0 ≤ (plc ps k).sby) = false := decide_eq_false (by omega)
        rw [a2, b2] at hK
        simp -implicitDefEqProofs only [go_sem, ir87_l2, eQ, e7, h7, e8, e12, e16, d1, q0, q1, g1, w1, f1, f2]
        refine .next hlt ⟨⟨?_, ?_, ?_, ?_, ?_⟩, ?_, by omega⟩ <;> simp -implicitDefEqProofs only [go_sem, eQ, e7, h7, e8, e11, e12, w1, hK]
      · have f2 : decide (0 ≤ (plc ps k).sby) = true := decide_eq_true b1
        rw [a2, b2] at hK
        rw [b3] at B2
        simp -implicitDefEqProofs only [go_sem, ir87_l2, eQ, e7, h7, e8, e12, e16, d1, q0, q1, g1, w1, f1, f2, vpS B2 rfl]
        refine .next hlt ⟨⟨?_, ?_, ?_, ?_, ?_⟩, ?_, by omega⟩ <;> simp -implicitDefEqProofs only [go_sem, eQ, e7, h7, e8, e11, e12, w1, hK]
      · have f2 : decide (0 ≤ (plc ps k).sby) = true := decide_eq_true b1
        rw [a2, b2] at hK
        rw [b3] at B2
        have hz : (n : Int) - ((one3 p ps k).length : Nat) - 1 = (n : Int) - ((one3 p ps (k + 1)).length : Nat) := by omega
        simp -implicitDefEqProofs only [go_sem, ir87_l2, eQ, e7, h7, e8, e12, e16, d1, q0, q1, g1, w1, f1, f2, vpS B2 rfl, wa]
        refine .next hlt ⟨⟨?_, ?_, ?_, ?_, ?_⟩, ?_, by omega⟩ <;> simp -implicitDefEqProofs only [go_sem, eQ, e7, h7, e8, e11, w1, hz]
    · have f1 : decide (0 ≤ (plc ps k).home) = true := decide_eq_true a1
      rw [a3] at B1
      rcases one_fact hc (k : Nat) (plc ps k).sby t1.1 t1.2 with ⟨b1, b2⟩ | ⟨b1, b3, b2⟩ | ⟨b1, b3, b2⟩
      · have f2 : decide (0 ≤ (plc ps k).sby) = false := decide_eq_false (by omega)
        rw [a2, b2] at hK
        simp -implicitDefEqProofs only [go_sem, ir87_l2, eQ, e7, h7, e8, e12, e16, d1, q0, q1, g1, w1, f1, f2, vpS B1 rfl]
        refine .next hlt ⟨⟨?_, ?_, ?_, ?_, ?_⟩, ?_, by omega⟩ <;> simp -implicitDefEqProofs only [go_sem, eQ, e7, h7, e8, e11, e12, w1, hK]
      · have f2 : decide (0 ≤ (plc ps k).sby) = true := decide_eq_true b1
        rw [a2, b2] at hK
        rw [b3] at B2
        simp -implicitDefEqProofs only [go_sem, ir87_l2, eQ, e7, h7, e8, e12, e16, d1, q0, q1, g1, w1, f1, f2, vpS B1 rfl, vpS B2 rfl]
        refine .next hlt ⟨⟨?_, ?_, ?_, ?_, ?_⟩, ?_, by omega⟩ <;> simp -implicitDefEqProofs only [go_sem, eQ, e7, h7, e8, e11, e12, w1, hK]
      · have f2 : decide (0 ≤ (plc ps k).sby) = true := decide_eq_true b1
        rw [a2, b2] at hK
        rw [b3] at B2
        have hz : (n : Int) - ((one3 p ps k).length : Nat) - 1 = (n : Int) - ((one3 p ps (k + 1)).length : Nat) := by omega
        simp -implicitDefEqProofs only [go_sem, ir87_l2, eQ, e7, h7, e8, e12, e16, d1, q0, q1, g1, w1, f1, f2, vpS B1 rfl, vpS B2 rfl, wa]
        refine .next hlt ⟨⟨?_, ?_, ?_, ?_, ?_⟩, ?_, by omega⟩ <;> simp -implicitDefEqProofs only [go_sem, eQ, e7, h7, e8, e11, w1, hz]
    · have f1 : decide (0 ≤ (plc ps k).home) = true := decide_eq_true a1
      rw [a3] at B1
      rcases one_fact hc (k : Nat) (plc ps k).sby t1.1 t1.2 with ⟨b1, b2⟩ | ⟨b1, b3, b2⟩ | ⟨b1, b3, b2⟩
      · have f2 : decide (0 ≤ (plc ps k).sby) = false := decide_eq_false (by omega)
        rw [a2, b2] at hK
        have hz : (n : Int) - ((one3 p ps k).length : Nat) - 1 = (n : Int) - ((one3 p ps (k + 1)).length : Nat) := by omega
        simp -implicitDefEqProofs only [go_sem, ir87_l2, eQ, e7, h7, e8, e12, e16, d1, q0, q1, g1, w1, f1, f2, vpS B1 rfl, wa]
        refine .next hlt ⟨⟨?_, ?_, ?_, ?_, ?_⟩, ?_, by omega⟩ <;> simp -implicitDefEqProofs only [go_sem, eQ, e7, h7, e8, e11, w1, hz]
      · have f2 : decide (0 ≤ (plc ps k).sby) = true := decide_eq_true b1
        rw [a2, b2] at hK
        rw [b3] at B2
        have hz : (n : Int) - ((one3 p ps k).length : Nat) - 1 = (n : Int) - ((one3 p ps (k + 1)).length : Nat) := by omega
        simp -implicitDefEqProofs only [go_sem, ir87_l2, eQ, e7, h7, e8, e12, e16, d1, q0, q1, g1, w1, f1, f2, vpS B1 rfl, vpS B2 rfl, wa]
        refine .next hlt ⟨⟨?_, ?_, ?_, ?_, ?_⟩, ?_, by omega⟩ <;> simp -implicitDefEqProofs only [go_sem, eQ, e7, h7, e8, e11, w1, hz]
      · have f2 : decide (0 ≤ (plc ps k).sby) = true := decide_eq_true b1
        rw [a2, b2] at hK
        rw [b3] at B2
        have hz : (n : Int) - ((one3 p ps k).length : Nat) - 1 - 1 = (n : Int) - ((one3 p ps (k + 1)).length : Nat) := by omega
        simp -implicitDefEqProofs only [go_sem, ir87_l2, eQ, e7, h7, e8, e12, e16, d1, q0, q1, g1, w1, f1, f2, vpS B1 rfl, vpS B2 rfl, wa, wb]
        refine .next hlt ⟨⟨?_, ?_, ?_, ?_, ?_⟩, ?_, by omega⟩ <;> simp -implicitDefEqProofs only [go_sem, eQ, e7, h7, e8, e11, w1, hz]
  · have hkl : k = ps.length := by omega
    have d1 : decide ((k : Int) < (ps.length : Int)) = false := decide_eq_false (by omega)
    have hz : (n : Int) - ((one3 p ps k).length : Nat) = 0 := by rw [hkl, hn]; omega
    rw [hz] at e12
    simp -implicitDefEqProofs only [go_sem, ir87_l2, e8, e16, d1]
    refine .exit ⟨rfl, ?_, ?_⟩ <;> simp -implicitDefEqProofs only [go_sem, e11, e12]
theorem law_RulesCapacity (l : List Int) (hl : I64s l) (m : List Int) (hm : I64s m) (cells : Int) (h1 : I64 cells) : OkF (F PP shF 87 [dL l, dL m, dI cells] [] 0) (fun d _ => d = dB true) := by
  refine F_ok PP87 rfl ⟨by simp [ir87], by simp⟩ ?_
  have L := FV_Light l
  have L2 := FV_Light m
  by_cases hlen : l.length ≤ 200
  case neg => rw [decide_eq_false hlen] at L; simp -implicitDefEqProofs only [go_sem, ir87, vpS L rfl, vpS FV_awake17 rfl]
  rw [decide_eq_true hlen] at L
  by_cases hlen2 : m.length ≤ 200
  case neg => rw [decide_eq_false hlen2] at L2; simp -implicitDefEqProofs only [go_sem, ir87, vpS L rfl, vpS L2 rfl, vpS FV_awake17 rfl]
  rw [decide_eq_true hlen2] at L2
  obtain ⟨p, hc, hcells, hhd, hP⟩ := FV_Problem l hl cells h1 false
  obtain ⟨ps, hps1, hps2, hQ⟩ := FVF_Places m hm p.conf hc
  have hfit : FitP p.conf ps := ⟨hps1, hps2⟩
  have ht := hc.t1
  have hc7 := hc.c1
  have A1 := FVF_Partial p hc ps (by omega)
  rw [(fit_iff hc ps).2 hfit, if_pos rfl] at A1
  have K1 := FVF_Booked p hc ps (by omega)
  rw [show min ps.length p.conf.tens.length = ps.length by omega, show booked p.conf ps ps.length = bkd p ps from rfl] at K1
  have hb : (bkd p ps).length = p.conf.cells.length := booked_len _ _ _
  obtain ⟨c1, c2, c3⟩ := cap_facts hhd ps
  have pl := partL_len hc hfit
  have n1 : (((bkd p ps).length : Int) != (p.conf.cells.length : Int)) = false := by rw [hb]; simp
  simp -implicitDefEqProofs only [go_sem, ir87, vpS L rfl, vpS L2 rfl, vpL hP rfl, eQ, eK, vpF hQ rfl, vpS FV_awake17 rfl, vpF A1 rfl, vpF K1 rfl, n1]
  refine (cap87_l0 p ps (partL p ps) (by omega) hb c3 0 _ ⟨⟨?_, ?_, ?_, ?_, ?_, ?_⟩, ?_, ?_, by omega⟩).mono ?_ <;> (try simp -implicitDefEqProofs only [go_sem, eQ, eK]) <;> (try rfl)
  rintro e ⟨E, H⟩ ⟨rfl, e7, h7, e8, e9, e11, e12⟩
  simp only at e7 h7 e8 e9 e11 e12
  rw [c1] at e11
  rw [c2] at e12
  simp -implicitDefEqProofs only [go_sem, ]
  refine (cap87_l1 p ps ((one3 p ps ps.length).length : Nat) _ (by omega) hb rfl 0 _ ⟨⟨?_, ?_, ?_, ?_, ?_, ?_⟩, ?_, by omega⟩).mono ?_ <;> (try simp -implicitDefEqProofs only [go_sem, e7, h7, e8, e9, e11, e12]) <;> (try rfl)
  rintro e ⟨E, H⟩ ⟨rfl, e7, h7, e8, e9, e11, e12⟩
  simp only at e7 h7 e8 e9 e11 e12
  simp -implicitDefEqProofs only [go_sem, ]
  refine (cap87_l2 p hc ps hfit _ (by omega) rfl 0 _ ⟨⟨?_, ?_, ?_, ?_, ?_⟩, ?_, by omega⟩).mono ?_ <;> (try simp -implicitDefEqProofs only [go_sem, e7, h7, e8, e9, e11, e12]) <;> (try rfl)
  rintro e ⟨E, H⟩ ⟨rfl, e11, e12⟩
  simp only at e11 e12
  simp -implicitDefEqProofs only [go_sem, e11, e12]
end Go.Proofs.Cp
