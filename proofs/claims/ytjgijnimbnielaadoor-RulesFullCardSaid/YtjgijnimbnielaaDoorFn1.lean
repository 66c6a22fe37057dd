/- What the functions answer (part 1). -/
import Derived.Test.YtjgijnimbnielaaDoorFn0
set_option linter.unusedSimpArgs false
set_option linter.unusedVariables false
set_option maxRecDepth 100000
namespace Go.Proofs.Cp
open Go
theorem FV_zones (c : Conf) (hz : c.zones.length ≤ 1000) (l : List Int) (hl : l.length ≤ 1000) : FV PP shF 79 [.agg (eK c), dL l] = some (dB (zonesB c l)) := by
  refine FV_ok (F_ok PP79 rfl ⟨by simp [ir79], by simp⟩ ?_)
  simp -implicitDefEqProofs only [go_sem, ir79, eK]
  refine (zones_l0 c hz l hl 0 _ ⟨?_, ?_, ?_, ?_, ?_, by omega, rfl⟩).mono ?_ <;> (try simp -implicitDefEqProofs only [go_sem, eK])
  rintro e ⟨E, H⟩ (⟨rfl, hb⟩ | ⟨rfl, hb, e4⟩)
  · simp -implicitDefEqProofs only [go_sem, hb]
  · simp only at e4
    simp -implicitDefEqProofs only [go_sem, hb, e4]
def qZ (c : Conf) (i : Nat) : Bool := inB (c.zones.getD i 0) 0 (c.regions - 1)
def qC (c : Conf) (i : Nat) : Bool := inB (c.cells.getD i ⟨0, 0⟩).zone 0 ((c.zones.length : Int) - 1) && inB (c.cells.getD i ⟨0, 0⟩).cap 1 4194304
def qV (c : Conf) (i : Nat) : Bool := decide (0 ≤ (c.vers.getD i ⟨0, 0⟩).low) && decide ((c.vers.getD i ⟨0, 0⟩).low ≤ (c.vers.getD i ⟨0, 0⟩).high) && decide ((c.vers.getD i ⟨0, 0⟩).high ≤ 30)
def firstB (c : Conf) : Bool := (c.vers.getD 0 ⟨0, 0⟩).low == 0
def placedB (c : Conf) : Bool := allN (qZ c) c.zones.length && allN (qC c) c.cells.length && zonesB c c.reps && zonesB c c.obs
def K64 (c : Conf) (w : VSt) : Prop := gt .bad w.E 1 = .mp 1 1 0 0 ∧ hg w.H 1 = ⟨1, 0, true, [eK c]⟩
def L64a (c : Conf) (k : Nat) (w : VSt) : Prop := K64 c w ∧ gt .bad w.E 8 = .sl (c.zones.map eI) ∧ gt .bad w.E 9 = dI (c.zones.length : Nat) ∧ gt .bad w.E 10 = dI (k : Nat) ∧ k ≤ c.zones.length ∧ allN (qZ c) k = true
theorem placed_l0 (c : Conf) (hc : Lens c) (hr : 1 ≤ c.regions ∧ c.regions ≤ 4) : ∀ k w, L64a c k w → Ok (R PP shF 0 54 (.loop ir64_l0) w) (fun e w => (e = .exit 0 ∧ allN (qZ c) c.zones.length = true ∧ K64 c w) ∨ (e = .ret ∧ allN (qZ c) c.zones.length = false ∧ gt .bad w.E 2 = dB false)) := by
  refine Ok_up c.zones.length (L64a c) fun k w hI => ?_
  obtain ⟨E, H⟩ := w
  obtain ⟨⟨e1, h1⟩, e8, e9, e10, hk, ha⟩ := hI
  simp only at e1 h1 e8 e9 e10
  have hz := hc.z
  have w1 : IntKind.wrap .i64 ((k : Int) + 1) = ((k + 1 : Nat) : Int) := by rw [w64 (by omega) (by omega)]; rfl
  have w2 : IntKind.wrap .i64 (c.regions - 1) = c.regions - 1 := w64 (by omega) (by omega)
  by_cases hlt : k < c.zones.length
  · have d1 : decide ((k : Int) < (c.zones.length : Int)) = true := by simp; omega
    have q1 : (k : Int) < (c.zones.length : Int) := by omega
    have q0 : (0 : Int) ≤ (k : Int) := by omega
    have g1 := getD_at (l := c.zones) (i := k) (d := 0) hlt
    have B := FV_tb (c.zones.getD k 0) 0 (c.regions - 1)
    rw [show inB (c.zones.getD k 0) 0 (c.regions - 1) = qZ c k from rfl] at B
    cases hb : qZ c k with
    | true =>
      rw [hb] at B
      simp -implicitDefEqProofs only [go_sem, ir64_l0, eK, e1, h1, e8, e9, e10, d1, q0, q1, g1, w1, w2, vpS B rfl]
      refine .next hlt ⟨⟨?_, ?_⟩, ?_, ?_, ?_, by omega, allN_next ha hb⟩ <;> simp -implicitDefEqProofs only [go_sem, e1, h1, e8, e9, w1, eK]
    | false =>
      rw [hb] at B
      simp -implicitDefEqProofs only [go_sem, ir64_l0, eK, e1, h1, e8, e9, e10, d1, q0, q1, g1, w1, w2, vpS B rfl]
      refine .ret (.inr ⟨rfl, allN_false hb _ hlt, ?_⟩)
      simp -implicitDefEqProofs only [go_sem, ]
  · have : k = c.zones.length := by omega
    subst this
    have d1 : decide ((c.zones.length : Int) < (c.zones.length : Int)) = false := by simp
    simp -implicitDefEqProofs only [go_sem, ir64_l0, eK, e9, e10, d1]
    exact .exit (.inl ⟨rfl, ha, by simp -implicitDefEqProofs only [go_sem, e1], h1⟩)
def L64b (c : Conf) (k : Nat) (w : VSt) : Prop := K64 c w ∧ gt .bad w.E 23 = .sl (c.cells.map eC) ∧ gt .bad w.E 24 = dI (c.cells.length : Nat) ∧ gt .bad w.E 25 = dI (k : Nat) ∧ k ≤ c.cells.length ∧ allN (qC c) k = true
theorem placed_l1 (c : Conf) (hc : Lens c) : ∀ k w, L64b c k w → Ok (R PP shF 0 54 (.loop ir64_l1) w) (fun e w => (e = .exit 2 ∧ allN (qC c) c.cells.length = true ∧ K64 c w) ∨ (e = .ret ∧ allN (qC c) c.cells.length = false ∧ gt .bad w.E 2 = dB false)) := by
  refine Ok_up c.cells.length (L64b c) fun k w hI => ?_
  obtain ⟨E, H⟩ := w
  obtain ⟨⟨e1, h1⟩, e23, e24, e25, hk, ha⟩ := hI
  simp only at e1 h1 e23 e24 e25
  have hz := hc.z
  have hcl := hc.c
  have w1 : IntKind.wrap .i64 ((k : Int) + 1) = ((k + 1 : Nat) : Int) := by rw [w64 (by omega) (by omega)]; rfl
  have w2 : IntKind.wrap .i64 ((c.zones.length : Int) - 1) = (c.zones.length : Int) - 1 := w64 (by omega) (by omega)
  by_cases hlt : k < c.cells.length
  · have d1 : decide ((k : Int) < (c.cells.length : Int)) = true := by simp; omega
    have q1 : (k : Int) < (c.cells.length : Int) := by omega
    have q0 : (0 : Int) ≤ (k : Int) := by omega
    have g1 := getD_at (l := c.cells) (i := k) (d := ⟨0, 0⟩) hlt
    have B1 := FV_tb (c.cells.getD k ⟨0, 0⟩).zone 0 ((c.zones.length : Int) - 1)
    have B2 := FV_tb (c.cells.getD k ⟨0, 0⟩).cap 1 4194304
    have hq : qC c k = (inB (c.cells.getD k ⟨0, 0⟩).zone 0 ((c.zones.length : Int) - 1) && inB (c.cells.getD k ⟨0, 0⟩).cap 1 4194304) := rfl
    cases x1 : inB (c.cells.getD k ⟨0, 0⟩).zone 0 ((c.zones.length : Int) - 1) with
    | true =>
      rw [x1] at B1
      cases x2 : inB (c.cells.getD k ⟨0, 0⟩).cap 1 4194304 with
      | true =>
        rw [x2] at B2
        rw [x1, x2] at hq
        simp -implicitDefEqProofs only [go_sem, ir64_l1, eK, e1, h1, e23, e24, e25, d1, q0, q1, g1, w1, w2, vpS B1 rfl, vpS B2 rfl]
        refine .next hlt ⟨⟨?_, ?_⟩, ?_, ?_, ?_, by omega, allN_next ha hq⟩ <;> simp -implicitDefEqProofs only [go_sem, e1, h1, e23, e24, w1, eK]
      | false =>
        rw [x2] at B2
        rw [x1, x2] at hq
        simp -implicitDefEqProofs only [go_sem, ir64_l1, eK, e1, h1, e23, e24, e25, d1, q0, q1, g1, w1, w2, vpS B1 rfl, vpS B2 rfl]
        refine .ret (.inr ⟨rfl, allN_false hq _ hlt, ?_⟩)
        simp -implicitDefEqProofs only [go_sem, ]
    | false =>
      rw [x1] at B1
      rw [x1] at hq
      simp -implicitDefEqProofs only [go_sem, ir64_l1, eK, e1, h1, e23, e24, e25, d1, q0, q1, g1, w1, w2, vpS B1 rfl, vpS B2 rfl]
      refine .ret (.inr ⟨rfl, allN_false hq _ hlt, ?_⟩)
      simp -implicitDefEqProofs only [go_sem, ]
  · have : k = c.cells.length := by omega
    subst this
    have d1 : decide ((c.cells.length : Int) < (c.cells.length : Int)) = false := by simp
    simp -implicitDefEqProofs only [go_sem, ir64_l1, eK, e24, e25, d1]
    exact .exit (.inl ⟨rfl, ha, by simp -implicitDefEqProofs only [go_sem, e1], h1⟩)
theorem FV_placed (c : Conf) (hc : Lens c) (hr : 1 ≤ c.regions ∧ c.regions ≤ 4) : FV PP shF 64 [.agg (eK c)] = some (dB (placedB c)) := by
  have Z1 := FV_zones c hc.z c.reps hc.p
  have Z2 := FV_zones c hc.z c.obs hc.o
  refine FV_ok (F_ok PP64 rfl ⟨by simp [ir64], by simp⟩ ?_)
  unfold placedB
  simp -implicitDefEqProofs only [go_sem, ir64, eK]
  refine (placed_l0 c hc hr 0 _ ⟨⟨?_, ?_⟩, ?_, ?_, ?_, by omega, rfl⟩).mono ?_ <;> (try simp -implicitDefEqProofs only [go_sem, eK])
  rintro e ⟨E, H⟩ (⟨rfl, hb, e1, h1⟩ | ⟨rfl, hb, e4⟩)
  · simp only at e1 h1
    simp -implicitDefEqProofs only [go_sem, eK, e1, h1, hb]
    refine (placed_l1 c hc 0 _ ⟨⟨?_, ?_⟩, ?_, ?_, ?_, by omega, rfl⟩).mono ?_ <;> (try simp -implicitDefEqProofs only [go_sem, e1, h1, eK])
    rintro e ⟨E, H⟩ (⟨rfl, hb, e1, h1⟩ | ⟨rfl, hb, e4⟩)
    · simp only at e1 h1
      generalize zonesB c c.reps = z1 at *
      generalize zonesB c c.obs = z2 at *
      cases z1
      · simp -implicitDefEqProofs only [go_sem, eK, e1, h1, hb, vpS Z1 rfl]
      · simp -implicitDefEqProofs only [go_sem, eK, e1, h1, hb, vpS Z1 rfl, vpS Z2 rfl]
    · simp only at e4
      simp -implicitDefEqProofs only [go_sem, hb, e4]
  · simp only at e4
    simp -implicitDefEqProofs only [go_sem, hb, e4]
def versB (c : Conf) : Bool := allN (qV c) c.vers.length && firstB c
def qV2 (c : Conf) (i : Nat) : Bool := qV c i && (decide (i ≠ 0) || firstB c)
def L65 (c : Conf) (k : Nat) (w : VSt) : Prop := gt .bad w.E 6 = .sl (c.vers.map eV) ∧ gt .bad w.E 7 = dI (c.vers.length : Nat) ∧ gt .bad w.E 8 = dI (k : Nat) ∧ k ≤ c.vers.length ∧ allN (qV2 c) k = true
theorem vers_l0 (c : Conf) (hc : Lens c) : ∀ k w, L65 c k w → Ok (R PP shF 0 38 (.loop ir65_l0) w) (Qb (allN (qV2 c) c.vers.length) 2) := by
  refine Ok_up c.vers.length (L65 c) fun k w hI => ?_
  obtain ⟨E, H⟩ := w
  obtain ⟨e6, e7, e8, hk, ha⟩ := hI
  simp only at e6 e7 e8
  have hv := hc.v
  have w1 : IntKind.wrap .i64 ((k : Int) + 1) = ((k + 1 : Nat) : Int) := by rw [w64 (by omega) (by omega)]; rfl
  by_cases hlt : k < c.vers.length
  · have d1 : decide ((k : Int) < (c.vers.length : Int)) = true := by simp; omega
    have q1 : (k : Int) < (c.vers.length : Int) := by omega
    have q0 : (0 : Int) ≤ (k : Int) := by omega
    have g1 := getD_at (l := c.vers) (i := k) (d := ⟨0, 0⟩) hlt
    by_cases a1 : 0 ≤ (c.vers.getD k ⟨0, 0⟩).low
    · have b1 : decide ((c.vers.getD k ⟨0, 0⟩).low < 0) = false := decide_eq_false (by omega)
      by_cases a2 : (c.vers.getD k ⟨0, 0⟩).low ≤ (c.vers.getD k ⟨0, 0⟩).high
      · have b2 : decide ((c.vers.getD k ⟨0, 0⟩).high < (c.vers.getD k ⟨0, 0⟩).low) = false := decide_eq_false (by omega)
        by_cases a3 : (c.vers.getD k ⟨0, 0⟩).high ≤ 30
        · have b3 : decide (30 < (c.vers.getD k ⟨0, 0⟩).high) = false := decide_eq_false (by omega)
          by_cases a4 : k = 0
          · have b4 : ((k : Int) == 0) = true := by simp; exact a4
            cases hf : firstB c with
            | true =>
              have b5 : ((c.vers.getD k ⟨0, 0⟩).low != 0) = false := by rw [a4]; unfold firstB at hf; simp only [bne, hf]; rfl
              have hq : qV2 c k = true := by unfold qV2 qV; rw [decide_eq_true a1, decide_eq_true a2, decide_eq_true a3, hf, Bool.or_true]; rfl
              simp -implicitDefEqProofs only [go_sem, ir65_l0, eK, e6, e7, e8, d1, q0, q1, g1, w1, b1, b2, b3, b4, b5]
              refine .next hlt ⟨?_, ?_, ?_, by omega, allN_next ha hq⟩ <;> simp -implicitDefEqProofs only [go_sem, e6, e7, w1, eK]
            | false =>
              have b5 : ((c.vers.getD k ⟨0, 0⟩).low != 0) = true := by rw [a4]; unfold firstB at hf; simp only [bne, hf]; rfl
              have hq : qV2 c k = false := by simp [qV2, hf, a4]
              simp -implicitDefEqProofs only [go_sem, ir65_l0, eK, e6, e7, e8, d1, q0, q1, g1, w1, b1, b2, b3, b4, b5]
              refine .ret (.inr ⟨rfl, allN_false hq _ hlt, ?_⟩)
              simp -implicitDefEqProofs only [go_sem, ]
          · have b4 : ((k : Int) == 0) = false := by simp; exact a4
            have hq : qV2 c k = true := by unfold qV2 qV; rw [decide_eq_true a1, decide_eq_true a2, decide_eq_true a3, decide_eq_true (show k ≠ 0 from a4), Bool.true_or]; rfl
            simp -implicitDefEqProofs only [go_sem, ir65_l0, eK, e6, e7, e8, d1, q0, q1, g1, w1, b1, b2, b3, b4]
            refine .next hlt ⟨?_, ?_, ?_, by omega, allN_next ha hq⟩ <;> simp -implicitDefEqProofs only [go_sem, e6, e7, w1, eK]
        · have b3 : decide (30 < (c.vers.getD k ⟨0, 0⟩).high) = true := decide_eq_true (by omega)
          have hq : qV2 c k = false := by unfold qV2 qV; rw [decide_eq_false a3, Bool.and_false, Bool.false_and]
          simp -implicitDefEqProofs only [go_sem, ir65_l0, eK, e6, e7, e8, d1, q0, q1, g1, w1, b1, b2, b3]
          refine .ret (.inr ⟨rfl, allN_false hq _ hlt, ?_⟩)
          simp -implicitDefEqProofs only [go_sem, ]
      · have b2 : decide ((c.vers.getD k ⟨0, 0⟩).high < (c.vers.getD k ⟨0, 0⟩).low) = true := decide_eq_true (by omega)
        have hq : qV2 c k = false := by unfold qV2 qV; rw [decide_eq_false a2, Bool.and_false, Bool.false_and, Bool.false_and]
        simp -implicitDefEqProofs only [go_sem, ir65_l0, eK, e6, e7, e8, d1, q0, q1, g1, w1, b1, b2]
        refine .ret (.inr ⟨rfl, allN_false hq _ hlt, ?_⟩)
        simp -implicitDefEqProofs only [go_sem, ]
    · have b1 : decide ((c.vers.getD k ⟨0, 0⟩).low < 0) = true := decide_eq_true (by omega)
      have hq : qV2 c k = false := by unfold qV2 qV; rw [decide_eq_false a1, Bool.false_and, Bool.false_and, Bool.false_and]
      simp -implicitDefEqProofs only [go_sem, ir65_l0, eK, e6, e7, e8, d1, q0, q1, g1, w1, b1]
      refine .ret (.inr ⟨rfl, allN_false hq _ hlt, ?_⟩)
      simp -implicitDefEqProofs only [go_sem, ]
  · have : k = c.vers.length := by omega
    subst this
    have d1 : decide ((c.vers.length : Int) < (c.vers.length : Int)) = false := by simp
    simp -implicitDefEqProofs only [go_sem, ir65_l0, eK, e7, e8, d1]
    exact .exit (.inl ⟨rfl, ha⟩)
theorem versB_eq (c : Conf) (h : c.vers.length ≠ 0) : allN (qV2 c) c.vers.length = versB c := by
  have key : ∀ n : Nat, allN (qV2 c) (n + 1) = (allN (qV c) (n + 1) && firstB c) := by
    intro n
    induction n with
    | zero => simp [allN, qV2]
    | succ n ih =>
      show (allN (qV2 c) (n + 1) && qV2 c (n + 1)) = ((allN (qV c) (n + 1) && qV c (n + 1)) && firstB c)
      rw [ih]
      have : qV2 c (n + 1) = qV c (n + 1) := by simp [qV2]
      rw [this]
      cases allN (qV c) (n + 1) <;> cases qV c (n + 1) <;> cases firstB c <;> rfl
  obtain ⟨n, hn⟩ : ∃ n, c.vers.length = n + 1 := ⟨c.vers.length - 1, by omega⟩
  unfold versB
  rw [hn]; exact key n
theorem FV_versions (c : Conf) (hc : Lens c) (h : c.vers.length ≠ 0) : FV PP shF 65 [.agg (eK c)] = some (dB (versB c)) := by
  rw [← versB_eq c h]
  refine FV_ok (F_ok PP65 rfl ⟨by simp [ir65], by simp⟩ ?_)
  simp -implicitDefEqProofs only [go_sem, ir65, eK]
  refine (vers_l0 c hc 0 _ ⟨?_, ?_, ?_, by omega, rfl⟩).mono ?_ <;> (try simp -implicitDefEqProofs only [go_sem, eK])
  rintro e ⟨E, H⟩ (⟨rfl, hb⟩ | ⟨rfl, hb, e4⟩)
  · simp -implicitDefEqProofs only [go_sem, hb]
  · simp only at e4
    simp -implicitDefEqProofs only [go_sem, hb, e4]
def evenB (c : Conf) : Bool := (c.reps.length : Int).tmod 2 == 0
def restB (c : Conf) : Bool := inB c.blast 1 16 && inB c.lease 1 1000 && inB c.bake 0 10000
def okB4 (c : Conf) : Bool := !evenB c && placedB c && versB c && restB c
def validN (c : Conf) : Int := if limB c = true then (if okB4 c = true then 0 else 1) else 2
theorem limB_facts {c : Conf} (h : limB c = true) : (1 ≤ c.regions ∧ c.regions ≤ 4) ∧ c.vers.length ≠ 0 := by
  unfold limB inB at h
  simp only [Bool.and_eq_true, decide_eq_true_eq] at h
  obtain ⟨⟨⟨⟨⟨⟨h1, _⟩, _⟩, h4⟩, _⟩, _⟩, _⟩ := h
  exact ⟨h1, by omega⟩
theorem FV_Valid (c : Conf) (hc : Lens c) : FV PP shF 30 [.agg (eK c)] = some (dI (validN c)) := by
  refine FV_ok (F_ok PP30 rfl ⟨by simp [ir30], by simp⟩ ?_)
  have B1 := FV_sized c
  have T1 := FV_tb c.blast 1 16
  have T2 := FV_tb c.lease 1 1000
  have T3 := FV_tb c.bake 0 10000
  unfold validN
  cases hl : limB c with
  | false =>
    rw [hl] at B1
    simp -implicitDefEqProofs only [go_sem, ir30, eK, vpS B1 rfl]
  | true =>
    rw [hl] at B1
    have B2 := FV_placed c hc (limB_facts hl).1
    have B3 := FV_versions c hc (limB_facts hl).2
    unfold okB4 restB
    have he : ((c.reps.length : Int).tmod 2 == 0) = evenB c := rfl
    generalize evenB c = ev at *
    generalize placedB c = pl at *
    generalize versB c = ve at *
    generalize inB c.blast 1 16 = r1 at *
    generalize inB c.lease 1 1000 = r2 at *
    generalize inB c.bake 0 10000 = r3 at *
    cases ev
    · cases pl
      · simp -implicitDefEqProofs only [go_sem, ir30, eK, vpS B1 rfl, he, vpS B2 rfl]
      · cases ve
        · simp -implicitDefEqProofs only [go_sem, ir30, eK, vpS B1 rfl, he, vpS B2 rfl, vpS B3 rfl]
        · cases r1
          · simp -implicitDefEqProofs only [go_sem, ir30, eK, vpS B1 rfl, he, vpS B2 rfl, vpS B3 rfl, vpS T1 rfl]
          · cases r2
            · simp -implicitDefEqProofs only [go_sem, ir30, eK, vpS B1 rfl, he, vpS B2 rfl, vpS B3 rfl, vpS T1 rfl, vpS T2 rfl]
            · cases r3
              · simp -implicitDefEqProofs only [go_sem, ir30, eK, vpS B1 rfl, he, vpS B2 rfl, vpS B3 rfl, vpS T1 rfl, vpS T2 rfl, vpS T3 rfl]
              · simp -implicitDefEqProofs only [go_sem, ir30, eK, vpS B1 rfl, he, vpS B2 rfl, vpS B3 rfl, vpS T1 rfl, vpS T2 rfl, vpS T3 rfl]
    · simp -implicitDefEqProofs only [go_sem, ir30, eK, vpS B1 rfl, he]
def rightB (W : Int) (t : Ten) : Bool := inB t.load 1 65536 && inB t.shadow 0 t.load && inB t.prio 0 9 && inB t.lag (-1) 1000 && (decide (1 ≤ t.allowed) && decide (t.allowed < W)) && inB t.group 0 32
def wid (c : Conf) : Int := 2 ^ c.regions.toNat
theorem wid_eq {R : Int} (h : 1 ≤ R ∧ R ≤ 4) : IntKind.wrap .i64 (1 * 2 ^ min R.toNat 64) = 2 ^ R.toNat ∧ (2 : Int) ^ R.toNat ≤ 16 ∧ (2 : Int) ≤ 2 ^ R.toNat := by
  obtain ⟨h1, h2⟩ := h
  obtain rfl | rfl | rfl | rfl : R = 1 ∨ R = 2 ∨ R = 3 ∨ R = 4 := by omega
  all_goals exact ⟨rfl, by decide, by decide⟩
theorem FV_right (c : Conf) (hr : 1 ≤ c.regions ∧ c.regions ≤ 4) (t : Ten) : FV PP shF 114 [.agg (eK c), .agg (eT t)] = some (dB (rightB (wid c) t)) := by
  obtain ⟨hs, hw1, hw2⟩ := wid_eq hr
  have nr : ¬ c.regions < 0 := by omega
  have w1 : IntKind.wrap .i64 (wid c - 1) = wid c - 1 := by unfold wid; exact w64 (by omega) (by omega)
  rw [show (2 : Int) ^ c.regions.toNat = wid c from rfl] at hs hw1 hw2
  have B1 := FV_between t.load 1 65536
  have B2 := FV_between t.shadow 0 t.load
  have B3 := FV_between t.prio 0 9
  have B4 := FV_between t.lag (-1) 1000
  have B5 := FV_between t.allowed 1 (wid c - 1)
  have B6 := FV_between t.group 0 32
  have h5 : (decide (1 ≤ t.allowed) && decide (t.allowed ≤ wid c - 1)) = (decide (1 ≤ t.allowed) && decide (t.allowed < wid c)) := by
    congr 1
    rw [Bool.eq_iff_iff]
    simp only [decide_eq_true_eq]
    omega
  rw [h5] at B5
  refine FV_ok (F_ok PP114 rfl ⟨by simp [ir114], by simp⟩ ?_)
  unfold rightB inB
  generalize (decide (1 ≤ t.load) && decide (t.load ≤ 65536)) = r1 at *
  generalize (decide (0 ≤ t.shadow) && decide (t.shadow ≤ t.load)) = r2 at *
  generalize (decide (0 ≤ t.prio) && decide (t.prio ≤ 9)) = r3 at *
  generalize (decide (-1 ≤ t.lag) && decide (t.lag ≤ 1000)) = r4 at *
  generalize (decide (1 ≤ t.allowed) && decide (t.allowed < wid c)) = r5 at *
  generalize (decide (0 ≤ t.group) && decide (t.group ≤ 32)) = r6 at *
  cases r1
  · simp -implicitDefEqProofs only [go_sem, ir114, eK, nr, hs, w1, vpS B1 rfl]
  cases r2
  · simp -implicitDefEqProofs only [go_sem, ir114, eK, nr, hs, w1, vpS B1 rfl, vpS B2 rfl]
  cases r3
  · simp -implicitDefEqProofs only [go_sem, ir114, eK, nr, hs, w1, vpS B1 rfl, vpS B2 rfl, vpS B3 rfl]
  cases r4
  · simp -implicitDefEqProofs only [go_sem, ir114, eK, nr, hs, w1, vpS B1 rfl, vpS B2 rfl, vpS B3 rfl, vpS B4 rfl]
  cases r5
  · simp -implicitDefEqProofs only [go_sem, ir114, eK, nr, hs, w1, vpS B1 rfl, vpS B2 rfl, vpS B3 rfl, vpS B4 rfl, vpS B5 rfl]
  cases r6
  · simp -implicitDefEqProofs only [go_sem, ir114, eK, nr, hs, w1, vpS B1 rfl, vpS B2 rfl, vpS B3 rfl, vpS B4 rfl, vpS B5 rfl, vpS B6 rfl]
  simp -implicitDefEqProofs only [go_sem, ir114, eK, nr, hs, w1, vpS B1 rfl, vpS B2 rfl, vpS B3 rfl, vpS B4 rfl, vpS B5 rfl, vpS B6 rfl]
def qT (c : Conf) (i : Nat) : Bool := rightB (wid c) (c.tens.getD i ⟨0, 0, 0, 0, 0, 0, false⟩)
def validT (c : Conf) : Int := if validN c = 0 then (if allN (qT c) c.tens.length = true then 0 else 1) else validN c
theorem validN_lim {c : Conf} (h : validN c = 0) : limB c = true := by
  unfold validN at h
  cases hl : limB c with
  | true => rfl
  | false => rw [hl] at h; simp at h
def L103 (c : Conf) (k : Nat) (w : VSt) : Prop := gt .bad w.E 1 = .mp 1 1 0 0 ∧ hg w.H 1 = ⟨1, 0, true, [eK c]⟩ ∧ gt .bad w.E 12 = .sl (c.tens.map eT) ∧ gt .bad w.E 13 = dI (c.tens.length : Nat) ∧ gt .bad w.E 14 = dI (k : Nat) ∧ k ≤ c.tens.length ∧ allN (qT c) k = true
theorem tvalid_l0 (c : Conf) (hc : Lens c) (hr : 1 ≤ c.regions ∧ c.regions ≤ 4) : ∀ k w, L103 c k w → Ok (R PP shF 0 23 (.loop ir103_l0) w) (fun e w => (e = .exit 0 ∧ allN (qT c) c.tens.length = true) ∨ (e = .ret ∧ allN (qT c) c.tens.length = false ∧ gt .bad w.E 2 = dI 1)) := by
  refine Ok_up c.tens.length (L103 c) fun k w hI => ?_
  obtain ⟨E, H⟩ := w
  obtain ⟨e1, h1, e12, e13, e14, hk, ha⟩ := hI
  simp only at e1 h1 e12 e13 e14
  have ht := hc.t
  have w1 : IntKind.wrap .i64 ((k : Int) + 1) = ((k + 1 : Nat) : Int) := by rw [w64 (by omega) (by omega)]; rfl
  by_cases hlt : k < c.tens.length
  · have d1 : decide ((k : Int) < (c.tens.length : Int)) = true := by simp; omega
    have q1 : (k : Int) < (c.tens.length : Int) := by omega
    have q0 : (0 : Int) ≤ (k : Int) := by omega
    have g1 := getD_at (l := c.tens) (i := k) (d := ⟨0, 0, 0, 0, 0, 0, false⟩) hlt
    have B := FV_right c hr (c.tens.getD k ⟨0, 0, 0, 0, 0, 0, false⟩)
    rw [show rightB (wid c) (c.tens.getD k ⟨0, 0, 0, 0, 0, 0, false⟩) = qT c k from rfl] at B
    cases hb : qT c k with
    | true =>
      rw [hb] at B
      simp -implicitDefEqProofs only [go_sem, ir103_l0, eK, eT, e1, h1, e12, e13, e14, d1, q0, q1, g1, w1, vpS B rfl]
      refine .next hlt ⟨?_, ?_, ?_, ?_, ?_, by omega, allN_next ha hb⟩ <;> simp -implicitDefEqProofs only [go_sem, e1, h1, e12, e13, w1, eK]
    | false =>
      rw [hb] at B
      simp -implicitDefEqProofs only [go_sem, ir103_l0, eK, eT, e1, h1, e12, e13, e14, d1, q0, q1, g1, w1, vpS B rfl]
      refine .ret (.inr ⟨rfl, allN_false hb _ hlt, ?_⟩)
      simp -implicitDefEqProofs only [go_sem, ]
  · have : k = c.tens.length := by omega
    subst this
    have d1 : decide ((c.tens.length : Int) < (c.tens.length : Int)) = false := by simp
    simp -implicitDefEqProofs only [go_sem, ir103_l0, eK, e13, e14, d1]
    exact .exit (.inl ⟨rfl, ha⟩)
theorem FV_tValid (c : Conf) (hc : Lens c) : FV PP shF 103 [.agg (eK c)] = some (dI (validT c)) := by
  have V := FV_Valid c hc
  refine FV_ok (F_ok PP103 rfl ⟨by simp [ir103], by simp⟩ ?_)
  unfold validT
  by_cases h0 : validN c = 0
  · obtain ⟨hr, _⟩ := limB_facts (validN_lim h0)
    rw [h0] at V
    have n0 : ((0 : Int) != 0) = false := rfl
    simp -implicitDefEqProofs only [go_sem, ir103, eK, vpS V rfl, h0, n0]
    refine (tvalid_l0 c hc hr 0 _ ⟨?_, ?_, ?_, ?_, ?_, by omega, rfl⟩).mono ?_ <;> (try simp -implicitDefEqProofs only [go_sem, eK])
    rintro e ⟨E, H⟩ (⟨rfl, hb⟩ | ⟨rfl, hb, e2⟩)
    · simp -implicitDefEqProofs only [go_sem, hb]
    · simp only at e2
      simp -implicitDefEqProofs only [go_sem, hb, e2]
  · have d1 : (validN c != 0) = true := by simp [h0]
    simp -implicitDefEqProofs only [go_sem, ir103, eK, vpS V rfl, d1, h0]
def inC (c : Conf) (n : Int) : Bool := decide (0 ≤ n) && decide (n < c.cells.length)
def plcB (c : Conf) (x : Plc) : Bool := ((x.home == -1) || inC c x.home) && ((x.sby == -1) || inC c x.sby)
def fitB (c : Conf) (ps : List Plc) : Bool := (validT c == 0) && ((ps.length : Int) == (c.tens.length : Int)) && ps.all (plcB c)
def L90 (p : Prob) (ps : List Plc) (i : Nat) (w : VSt) : Prop := gt .bad w.E 2 = .mp 2 1 0 0 ∧ hg w.H 2 = ⟨1, 0, true, [eQ p]⟩ ∧ gt .bad w.E 20 = .sl (ps.map eP) ∧ gt .bad w.E 21 = dI (ps.length : Nat) ∧ gt .bad w.E 22 = dI (i : Nat) ∧ i ≤ ps.length ∧ ∀ j, j < i → plcB p.conf (plc ps j) = true
theorem fit_l0 (p : Prob) (ps : List Plc) (hps : ps.length ≤ 1000) : ∀ i w, L90 p ps i w → Ok (R PP shF 0 49 (.loop ir90_l0) w) (fun e w => (e = .exit 0 ∧ ∀ j, j < ps.length → plcB p.conf (plc ps j) = true) ∨ (e = .ret ∧ gt .bad w.E 4 = dB false ∧ ∃ j, j < ps.length ∧ plcB p.conf (plc ps j) = false)) := by
  refine Ok_up ps.length _ fun i w hI => ?_
  obtain ⟨E, H⟩ := w
  obtain ⟨e2, h2, e20, e21, e22, hk, hall⟩ := hI
  simp only at e2 h2 e20 e21 e22
  have w1 : IntKind.wrap .i64 ((i : Int) + 1) = ((i + 1 : Nat) : Int) := by rw [w64 (by omega) (by omega)]; rfl
  by_cases hlt : i < ps.length
  · have d1 : decide ((i : Int) < (ps.length : Int)) = true := decide_eq_true (by omega)
    have q0 : (0 : Int) ≤ (i : Int) := by omega
    have q1 : (i : Int) < (ps.length : Int) := by omega
    have g1 : ps[i]? = some (plc ps i) := getD_at hlt
    have C1 := FV_cell p (plc ps i).home
    have C2 := FV_cell p (plc ps i).sby
    have nx : plcB p.conf (plc ps i) = true → ∀ j, j < i + 1 → plcB p.conf (plc ps j) = true := fun h j hj => by
      by_cases hji : j = i
      · rw [hji]; exact h
      · exact hall j (by omega)
    have hp : plcB p.conf (plc ps i) = ((((plc ps i).home == -1) || (decide (0 ≤ (plc ps i).home) && decide ((plc ps i).home < p.conf.cells.length))) && (((plc ps i).sby == -1) || (decide (0 ≤ (plc ps i).sby) && decide ((plc ps i).sby < p.conf.cells.length)))) := rfl
    generalize hb : plcB p.conf (plc ps i) = pb at *
    cases a1 : ((plc ps i).home == -1) with
    | true =>
      have a1' : ((plc ps i).home != -1) = false := by unfold bne; rw [a1]; rfl
      cases b1 : ((plc ps i).sby == -1) with
      | true =>
        have b1' : ((plc ps i).sby != -1) = false := by unfold bne; rw [b1]; rfl
        simp -implicitDefEqProofs only [go_sem, ir90_l0, eQ, e2, h2, e20, e21, e22, d1, q0, q1, g1, w1, a1', b1']
        refine .next hlt ⟨?_, ?_, ?_, ?_, ?_, by omega, nx (by rw [hp, a1, b1]; rfl)⟩ <;> simp -implicitDefEqProofs only [go_sem, eQ, e2, h2, e20, e21, w1]
      | false =>
        have b1' : ((plc ps i).sby != -1) = true := by unfold bne; rw [b1]; rfl
        cases b2 : (decide (0 ≤ (plc ps i).sby) && decide ((plc ps i).sby < (p.conf.cells.length : Int))) with
        | true =>
          rw [b2] at C2
          simp -implicitDefEqProofs only [go_sem, ir90_l0, eQ, e2, h2, e20, e21, e22, d1, q0, q1, g1, w1, a1', b1', vpS C2 rfl]
          refine .next hlt ⟨?_, ?_, ?_, ?_, ?_, by omega, nx (by rw [hp, a1, b1, b2]; rfl)⟩ <;> simp -implicitDefEqProofs only [go_sem, eQ, e2, h2, e20, e21, w1]
        | false =>
          rw [b2] at C2
          simp -implicitDefEqProofs only [go_sem, ir90_l0, eQ, e2, h2, e20, e21, e22, d1, q0, q1, g1, w1, a1', b1', vpS C2 rfl]
          exact .ret (.inr ⟨rfl, by simp -implicitDefEqProofs only [go_sem, ], i, hlt, by rw [hb, hp, a1, b1, b2]; rfl⟩)
    | false =>
      have a1' : ((plc ps i).home != -1) = true := by unfold bne; rw [a1]; rfl
      cases a2 : (decide (0 ≤ (plc ps i).home) && decide ((plc ps i).home < (p.conf.cells.length : Int))) with
      | false =>
        rw [a2] at C1
        simp -implicitDefEqProofs only [go_sem, ir90_l0, eQ, e2, h2, e20, e21, e22, d1, q0, q1, g1, w1, a1', vpS C1 rfl]
        exact .ret (.inr ⟨rfl, by simp -implicitDefEqProofs only [go_sem, ], i, hlt, by rw [hb, hp, a1, a2]; rfl⟩)
      | true =>
        rw [a2] at C1
        cases b1 : ((plc ps i).sby == -1) with
        | true =>
          have b1' : ((plc ps i).sby != -1) = false := by unfold bne; rw [b1]; rfl
          simp -implicitDefEqProofs only [go_sem, ir90_l0, eQ, e2, h2, e20, e21, e22, d1, q0, q1, g1, w1, a1', b1', vpS C1 rfl]
          refine .next hlt ⟨?_, ?_, ?_, ?_, ?_, by omega, nx (by rw [hp, a1, a2, b1]; rfl)⟩ <;> simp -implicitDefEqProofs only [go_sem, eQ, e2, h2, e20, e21, w1]
        | false =>
          have b1' : ((plc ps i).sby != -1) = true := by unfold bne; rw [b1]; rfl
          cases b2 : (decide (0 ≤ (plc ps i).sby) && decide ((plc ps i).sby < (p.conf.cells.length : Int))) with
          | true =>
            rw [b2] at C2
            simp -implicitDefEqProofs only [go_sem, ir90_l0, eQ, e2, h2, e20, e21, e22, d1, q0, q1, g1, w1, a1', b1', vpS C1 rfl, vpS C2 rfl]
            refine .next hlt ⟨?_, ?_, ?_, ?_, ?_, by omega, nx (by rw [hp, a1, a2, b1, b2]; rfl)⟩ <;> simp -implicitDefEqProofs only [go_sem, eQ, e2, h2, e20, e21, w1]
          | false =>
            rw [b2] at C2
            simp -implicitDefEqProofs only [go_sem, ir90_l0, eQ, e2, h2, e20, e21, e22, d1, q0, q1, g1, w1, a1', b1', vpS C1 rfl, vpS C2 rfl]
            exact .ret (.inr ⟨rfl, by simp -implicitDefEqProofs only [go_sem, ], i, hlt, by rw [hb, hp, a1, a2, b1, b2]; rfl⟩)
  · have hkl : i = ps.length := by omega
    have d1 : decide ((i : Int) < (ps.length : Int)) = false := decide_eq_false (by omega)
    simp -implicitDefEqProofs only [go_sem, ir90_l0, e21, e22, d1]
    subst hkl
    exact .exit (.inl ⟨rfl, hall⟩)
theorem all_plc {c : Conf} {ps : List Plc} : (ps.all (plcB c) = true ↔ ∀ j, j < ps.length → plcB c (plc ps j) = true) := by
  rw [List.all_eq_true]
  constructor
  · intro h j hj; exact h _ (List.mem_of_getElem? (getD_at (l := ps) (i := j) (d := ⟨0, 0⟩) hj))
  · intro h x hx
    obtain ⟨j, hj, rfl⟩ := List.mem_iff_getElem.1 hx
    have := h j hj
    unfold plc at this
    rwa [List.getD_eq_getElem?_getD, List.getElem?_eq_getElem hj] at this
theorem FV_Fit (p : Prob) (hc : Lens p.conf) (ps : List Plc) (hps : ps.length ≤ 1000) : FV PP shF 90 [.agg (eQ p), .sl (ps.map eP)] = some (dB (fitB p.conf ps)) := by
  refine FV_ok (F_ok PP90 rfl ⟨by simp [ir90], by simp⟩ ?_)
  have V := FV_tValid p.conf hc
  unfold fitB
  cases v : (validT p.conf == 0) with
  | false =>
    have v' : (validT p.conf != 0) = true := by unfold bne; rw [v]; rfl
    simp -implicitDefEqProofs only [go_sem, ir90, eQ, eK, vpS V rfl, v']
  | true =>
    have v' : (validT p.conf != 0) = false := by unfold bne; rw [v]; rfl
    cases l : ((ps.length : Int) == (p.conf.tens.length : Int)) with
    | false =>
      have l' : ((ps.length : Int) != (p.conf.tens.length : Int)) = true := by unfold bne; rw [l]; rfl
      simp -implicitDefEqProofs only [go_sem, ir90, eQ, eK, vpS V rfl, v', l']
    | true =>
      have l' : ((ps.length : Int) != (p.conf.tens.length : Int)) = false := by unfold bne; rw [l]; rfl
      simp -implicitDefEqProofs only [go_sem, ir90, eQ, eK, vpS V rfl, v', l']
      refine (fit_l0 p ps hps 0 _ ⟨?_, ?_, ?_, ?_, ?_, by omega, fun j hj => by omega⟩).mono ?_ <;> (try simp -implicitDefEqProofs only [go_sem, eQ])
      rintro e ⟨E, H⟩ (⟨rfl, h⟩ | ⟨rfl, e4, j, hj, h⟩)
      · rw [all_plc.2 h]
        simp -implicitDefEqProofs only [go_sem, ]
      · have : ps.all (plcB p.conf) = false := by
          cases ha : ps.all (plcB p.conf) with
          | false => rfl
          | true => rw [all_plc.1 ha j hj] at h; simp at h
        rw [this]
        simp only at e4
        simp -implicitDefEqProofs only [go_sem, e4]
theorem FV_run (k : Nat) {g : Nat} (h : (vmach PP shF k g [] [] 0).map (·.1) = some (dB true)) : FV PP shF g [] = some (dB true) := by
  simp only [Option.map_eq_some_iff] at h
  obtain ⟨⟨d, H⟩, h1, h2⟩ := h
  simp only at h2; subst h2
  exact FV_B (F_of k h1)
theorem allN_true {q : Nat → Bool} : ∀ n : Nat, (∀ i, i < n → q i = true) → allN q n = true
  | 0, _ => rfl
  | n + 1, h => by simp only [allN, allN_true n (fun i hi => h i (by omega)), h n (by omega), Bool.and_self]
theorem inB_true {n lo hi : Int} (h : lo ≤ n ∧ n ≤ hi) : inB n lo hi = true := by unfold inB; rw [decide_eq_true h.1, decide_eq_true h.2]; rfl
theorem ConfOk.valid {c : Conf} (hc : ConfOk c) : validN c = 0 := by
  have r0 := hc.r0
  have r1 := hc.r1
  have z0 := hc.z0
  have z1 := hc.z1
  have c0 := hc.c0
  have c1 := hc.c1
  have t1 := hc.t1
  have v1 := hc.v1
  have v0 := List.length_pos_iff.2 hc.v0
  have o0 := hc.o0
  have o1 := hc.o1
  have hl : limB c = true := by
    unfold limB
    rw [inB_true ⟨by omega, by omega⟩, inB_true ⟨by omega, by omega⟩, inB_true ⟨by omega, by omega⟩, inB_true ⟨by omega, by omega⟩, inB_true (n := (c.reps.length : Int)) ⟨by rcases hc.ps with h | h <;> omega, by rcases hc.ps with h | h <;> omega⟩, inB_true ⟨by omega, by omega⟩, decide_eq_true (by omega)]
    rfl
  have he : evenB c = false := by
    unfold evenB
    rcases hc.ps with h | h <;> rw [h] <;> rfl
  have hz : ∀ l : List Int, (∀ z, z ∈ l → 0 ≤ z ∧ z < (c.zones.length : Int)) → zonesB c l = true := fun l h => allN_true _ fun i hi => by
    have g := getD_at (l := l) (i := i) (d := 0) hi
    have := h _ (List.mem_of_getElem? g)
    exact inB_true ⟨by omega, by omega⟩
  have hp : placedB c = true := by
    unfold placedB
    rw [hz _ hc.pz, hz _ hc.oz, allN_true _ (fun i hi => ?_), allN_true _ (fun i hi => ?_)]
    · rfl
    · have g := getD_at (l := c.cells) (i := i) (d := ⟨0, 0⟩) hi
      have := hc.cs _ (List.mem_of_getElem? g)
      unfold qC
      rw [inB_true ⟨by omega, by omega⟩, inB_true ⟨by omega, by omega⟩]; rfl
    · have g := getD_at (l := c.zones) (i := i) (d := 0) hi
      have := hc.zs _ (List.mem_of_getElem? g)
      exact inB_true ⟨by omega, by omega⟩
  have hv : versB c = true := by
    unfold versB
    have g0 := getD_at (l := c.vers) (i := 0) (d := ⟨0, 0⟩) v0
    have hf : firstB c = true := by
      unfold firstB
      rw [hc.vh (c.vers.getD 0 ⟨0, 0⟩) (by rw [← g0, List.head?_eq_getElem?])]
      rfl
    rw [hf, allN_true _ (fun i hi => ?_)]
    · rfl
    · have g := getD_at (l := c.vers) (i := i) (d := ⟨0, 0⟩) hi
      have := hc.vs _ (List.mem_of_getElem? g)
      unfold qV
      have x1 := this.l1
      have x2 := this.h1
      rw [decide_eq_true this.l0, decide_eq_true this.h0, decide_eq_true (by omega)]
      rfl
  have hr : restB c = true := by
    unfold restB
    have := hc.b0
    have := hc.b1
    have := hc.l0
    have := hc.l1
    have := hc.k0
    have := hc.k1
    rw [inB_true ⟨by omega, by omega⟩, inB_true ⟨by omega, by omega⟩, inB_true ⟨by omega, by omega⟩]; rfl
  unfold validN okB4
  rw [hl, he, hp, hv, hr]; rfl
theorem FV_awake17 : FV PP shF 89 [] = some (dB true) := FV_run 60 (by kernel_rfl)
theorem ConfOk.validT {c : Conf} (hc : ConfOk c) : Cp.validT c = 0 := by
  have r0 := hc.r0
  have r1 := hc.r1
  unfold Cp.validT
  rw [hc.valid, if_pos rfl, allN_true _ (fun i hi => ?_)]
  · rfl
  · have g := getD_at (l := c.tens) (i := i) (d := ⟨0, 0, 0, 0, 0, 0, false⟩) hi
    have h := hc.ts _ (List.mem_of_getElem? g)
    have a0 := h.l0
    have a1 := h.l1
    have a2 := h.s0
    have a3 := h.s1
    have a4 := h.p0
    have a5 := h.p1
    have a6 := h.g0
    have a7 := h.g1
    have a8 := h.a0
    have a9 := h.a1
    have b0 := h.u0
    have b1 := h.u1
    have hw : allR c.regions < wid c := by
      unfold wid
      obtain hh | hh | hh : c.regions = 1 ∨ c.regions = 2 ∨ c.regions = 3 := by omega
      all_goals (rw [hh]; decide)
    unfold qT rightB
    rw [inB_true ⟨by omega, by omega⟩, inB_true ⟨by omega, by omega⟩, inB_true ⟨by omega, by omega⟩, inB_true ⟨by omega, by omega⟩, inB_true ⟨by omega, by omega⟩, decide_eq_true (by omega), decide_eq_true (by omega)]
    rfl
theorem fit_iff {c : Conf} (hc : ConfOk c) (ps : List Plc) : fitB c ps = true ↔ FitP c ps := by
  unfold fitB FitP
  rw [hc.validT]
  simp only [beq_self_eq_true, Bool.true_and, Bool.and_eq_true, beq_iff_eq]
  constructor
  · rintro ⟨h1, h2⟩
    refine ⟨by omega, fun x hx => ?_⟩
    have := List.all_eq_true.1 h2 x hx
    unfold plcB inC at this
    simp at this
    exact ⟨by omega, by omega, by omega, by omega⟩
  · rintro ⟨h1, h2⟩
    refine ⟨by omega, List.all_eq_true.2 fun x hx => ?_⟩
    have := h2 x hx
    have a := this.h0; have b := this.h1; have d := this.s0; have e := this.s1
    unfold plcB inC
    simp
    omega
theorem FVF_Partial (p : Prob) (hc : ConfOk p.conf) (ps : List Plc) (hps : ps.length ≤ 1000) : FVF PP shF 93 [.agg (eQ p), .sl (ps.map eP)] (.sl ((if fitB p.conf ps = true then partL p ps else []).map eB)) := by
  refine FVF_ok (F_ok PP93 rfl ⟨by simp [ir93], by simp⟩ ?_)
  have K := FV_Fit p hc.lens ps hps
  cases hf : fitB p.conf ps with
  | false =>
    rw [hf] at K
    simp -implicitDefEqProofs only [go_sem, ir93, eQ, vpS K rfl]
    rfl
  | true =>
    rw [hf] at K
    have hfit := (fit_iff hc ps).1 hf
    have A : ∀ (H : VHeap) (b : Nat), hg H 13 = ⟨1, 0, true, [fdr p ps (.lit (.slice none 0 0))]⟩ → H.length ≤ b → 20 ≤ b → F PP shF 105 [.mp 13 1 0 0] H b = some (.tup [], FH 105 [.mp 13 1 0 0] H b) ∧ ∃ bo ov, hg (FH 105 [.mp 13 1 0 0] H b) 13 = ⟨1, 0, true, [fdr p ps ov]⟩ ∧ SlB (FH 105 [.mp 13 1 0 0] H b) bo 5 ((partL p ps).map eB) ov := by
      intro H b h1 h2 h3
      have := FH_eq (partial_ok p hc ps hfit [] (by simp) H b 13 1 0 (.lit (.slice none 0 0)) h2 h1 SlB.nil (by decide) (by omega) (by omega))
      obtain ⟨e1, bo, ov, c1, c2, _⟩ := this
      exact ⟨e1, bo, ov, c1, by simpa using c2⟩
    have A1 := fun H b h1 h2 h3 => (A H b h1 h2 h3).1
    simp -implicitDefEqProofs only [go_sem, ir93, eQ, vpS K rfl, A1]
    obtain ⟨_, bo, ov, c1, c2⟩ := A (hs (hs [] 2 ⟨1, 0, true, [eQ p]⟩) 13 ⟨1, 0, true, [fdr p ps (.lit (.slice none 0 0))]⟩) (max (max (max 0 3) 14) 20) (by simp -implicitDefEqProofs only [go_sem, ]) (by simp [hs_len]) (by decide)
    generalize FH 105 _ _ _ = H' at c1 c2 ⊢
    simp -implicitDefEqProofs only [go_sem, c1]
    exact ⟨c2.frz (by decide) (closed_eB _) 5, c2.fresh (by decide) (lits_eB _) 4⟩
def L95 (p : Prob) (ps : List Plc) (B : List Brk) (w : VSt) : Prop := ∃ bo ov, gt .bad w.E 1 = .sl (ps.map eP) ∧ gt .bad w.E 2 = .mp 2 1 0 0 ∧ hg w.H 2 = ⟨1, 0, true, [eQ p]⟩ ∧ gt .bad w.E 5 = .mp 17 1 0 0 ∧ hg w.H 17 = ⟨1, 0, true, [fdr p ps ov]⟩ ∧ SlB w.H bo 5 (B.map eB) ov ∧ (bo = 1 ∨ 58 ≤ bo) ∧ bo < max w.H.length 58
/-- add, from a function without blocks of its caller. -/
theorem addZ {p : Prob} {ps : List Plc} {B : List Brk} {bf nt bo : Nat} {ov : DV} {rule : Int} {gs : Nat} {caps : List DV} {x : Brk} (hsg : shF gs = true) (hB : B.length ≤ 100000) {H : VHeap} {b1 : Nat} (hf : hg H bf = ⟨1, 0, true, [fdr p ps ov]⟩) (ho : SlB H bo 5 (B.map eB) ov) (hbf : bf < nt) (hbo : bo ≠ bf) (hbo2 : bo < b1) (hb1 : H.length ≤ b1) (hb2 : nt ≤ b1) (hset : SetOk gs caps H b1 rule x) :
    F PP shF 110 [.mp bf 1 0 0, dI rule, .fn gs caps] H b1 = some (.tup [], FH 110 [.mp bf 1 0 0, dI rule, .fn gs caps] H b1) ∧ ∃ ov', hg (FH 110 [.mp bf 1 0 0, dI rule, .fn gs caps] H b1) bf = ⟨1, 0, true, [fdr p ps ov']⟩ ∧ SlB (FH 110 [.mp bf 1 0 0, dI rule, .fn gs caps] H b1) (b1 + 19) 5 ((B ++ [x]).map eB) ov' ∧ (∀ c, c < b1 → c ≠ bf → c ≠ bo → hg (FH 110 [.mp bf 1 0 0, dI rule, .fn gs caps] H b1) c = hg H c) ∧ b1 + 20 ≤ (FH 110 [.mp bf 1 0 0, dI rule, .fn gs caps] H b1).length := by
  have A := add_ok p ps B bf 1 bo ov rule gs caps x hsg H b1 hf ho hbo hb1 (by omega) hbo2 hB (fun b' hb' => by
    have := hset (hs H (b1 + 6) ⟨(hg H (b1 + 6)).ver + 1, 0, true, [eB ⟨rule, -1, -1, -1, -1⟩]⟩) (b1 + 6) ((hg H (b1 + 6)).ver + 1) b' (fun c hc => by rw [hg_hs, if_neg (by omega)]) (by omega) (by rw [hg_hs, if_pos rfl]) (by rw [hs_len]; exact hb')
    rw [this, hs_hs])
  exact FH_eq A
theorem full_l0 (p : Prob) (ps : List Plc) (hps : ps.length ≤ 1000) : ∀ i w, (L95 p ps (hmL ps i) w ∧ gt .bad w.E 18 = .sl (ps.map eP) ∧ gt .bad w.E 19 = dI (ps.length : Nat) ∧ gt .bad w.E 20 = dI (i : Nat) ∧ i ≤ ps.length) → Ok (R PP shF 0 58 (.loop ir95_l0) w) (fun e w => e = .exit 0 ∧ L95 p ps (hmL ps ps.length) w) := by
  refine Ok_up ps.length (fun i w => L95 p ps (hmL ps i) w ∧ gt .bad w.E 18 = .sl (ps.map eP) ∧ gt .bad w.E 19 = dI (ps.length : Nat) ∧ gt .bad w.E 20 = dI (i : Nat) ∧ i ≤ ps.length) fun i w hI => ?_
  obtain ⟨E, H⟩ := w
  obtain ⟨⟨bo, ov, e1, e2, h2, e5, h17, ho, hbo, hbl⟩, e18, e19, e20, hk⟩ := hI
  simp only at e1 e2 h2 e5 h17 ho hbl e18 e19 e20
  have w1 : IntKind.wrap .i64 ((i : Int) + 1) = ((i + 1 : Nat) : Int) := by rw [w64 (by omega) (by omega)]; rfl
  by_cases hlt : i < ps.length
  · have d1 : decide ((i : Int) < (ps.length : Int)) = true := decide_eq_true (by omega)
    have q0 : (0 : Int) ≤ (i : Int) := by omega
    have q1 : (i : Int) < (ps.length : Int) := by omega
    have g1 : ps[i]? = some (plc ps i) := getD_at hlt
    have hl := hmL_len ps i
    have hK : hmL ps (i + 1) = hmL ps i ++ hmX i (plc ps i) := rfl
    have ho2 : SlB (hs (hs (hs (hs H 6 ⟨(hg H 6).ver + 1, 0, true, [[dI 0]]⟩) 7 ⟨(hg H 7).ver + 1, 0, true, [[dI 0, dI 0]]⟩) 6 ⟨(hg H 6).ver + 1, 0, true, [[dI (i : Nat)]]⟩) 7 ⟨(hg H 7).ver + 1, 0, true, [[dI (plc ps i).home, dI (plc ps i).sby]]⟩) bo 5 ((hmL ps i).map eB) ov := by
      rw [SlB_hs (by omega), SlB_hs (by omega), SlB_hs (by omega), SlB_hs (by omega)]; exact ho
    cases h1 : ((plc ps i).home == -1) with
    | true =>
      have hx : hmX i (plc ps i) = [⟨1, i, -1, -1, -1⟩] := by unfold hmX; rw [if_pos (by simpa using h1)]
      rw [hx] at hK
      have A := fun b1 hb1 hb2 hb3 => addZ (p := p) (ps := ps) (bf := 17) (nt := 58) (rule := 1) (gs := 111) (caps := [.mp 6 ((hg H 6).ver + 1) 0 0]) (x := ⟨1, i, -1, -1, -1⟩) rfl (by omega) (b1 := b1) (by rw [hg_hs, if_neg (by decide), hg_hs, if_neg (by decide), hg_hs, if_neg (by decide), hg_hs, if_neg (by decide)]; exact h17) ho2 (by decide) (by omega) hb3 hb1 hb2 (set_111 _ _ _ _ _ _ (by rw [hg_hs, if_neg (by decide), hg_hs, if_pos rfl]) (by omega))
      have A1 := fun b1 hb1 hb2 hb3 => (A b1 hb1 hb2 hb3).1
      have hbx : bo < max (max (max (max (max (List.length H) 7) 8) 7) 8) 58 := by omega
      simp -implicitDefEqProofs only [go_sem, ir95_l0, e1, e2, h2, e5, h17, e18, e19, e20, d1, q0, q1, g1, w1, h1, hs_hs, A1, hbx]
      obtain ⟨_, ov', c1, c2, c3, c4⟩ := A (max (max (max (max (max (List.length H) 7) 8) 7) 8) 58) (by simp only [hs_len]; omega) (by omega) hbx
      have h2' := c3 2 (by omega) (by decide) (by omega)
      rw [hg_hs, if_neg (by decide), hg_hs, if_neg (by decide), hg_hs, if_neg (by decide), hg_hs, if_neg (by decide), h2] at h2'
      generalize FH 110 _ _ _ = H' at c1 c2 c4 h2' ⊢
      have hb58 : 58 ≤ max (max (max (max (max (List.length H) 7) 8) 7) 8) 58 := by omega
      generalize max (max (max (max (max (List.length H) 7) 8) 7) 8) 58 = b1 at *
      refine .next hlt ⟨⟨b1 + 19, ov', ?_, ?_, ?_, ?_, c1, ?_, ?_, ?_⟩, ?_, ?_, ?_, by omega⟩ <;> (try simp -implicitDefEqProofs only [go_sem, e1, e2, h2', e5, e18, e19, w1])
      · rw [hK]; exact c2
      · right; omega
      · omega
    | false =>
      have hx : hmX i (plc ps i) = [] := by unfold hmX; rw [if_neg (by simpa using h1)]
      rw [hx, List.append_nil] at hK
      simp -implicitDefEqProofs only [go_sem, ir95_l0, e1, e2, h2, e5, h17, e18, e19, e20, d1, q0, q1, g1, w1, h1, hs_hs]
      refine .next hlt ⟨⟨bo, ov, ?_, ?_, ?_, ?_, ?_, ?_, hbo, ?_⟩, ?_, ?_, ?_, by omega⟩ <;> (try simp -implicitDefEqProofs only [go_sem, e1, e2, h2, e5, h17, e18, e19, w1])
      · rw [hK]; exact ho2
      · omega
  · have hkl : i = ps.length := by omega
    have d1 : decide ((i : Int) < (ps.length : Int)) = false := decide_eq_false (by omega)
    simp -implicitDefEqProofs only [go_sem, ir95_l0, e19, e20, d1]
    subst hkl
    refine .exit ⟨rfl, bo, ov, ?_, ?_, h2, ?_, h17, ho, hbo, hbl⟩ <;> simp -implicitDefEqProofs only [go_sem, e1, e2, e5]
theorem full_l1 (p : Prob) (ps : List Plc) (B : List Brk) (hB : B.length ≤ 1000) (hps : ps.length ≤ 1000) : ∀ i w, (L95 p ps (B ++ sbL p.conf ps i) w ∧ gt .bad w.E 32 = .sl (ps.map eP) ∧ gt .bad w.E 33 = dI (ps.length : Nat) ∧ gt .bad w.E 34 = dI (i : Nat) ∧ i ≤ ps.length) → Ok (R PP shF 0 58 (.loop ir95_l1) w) (fun e w => e = .exit 2 ∧ L95 p ps ((B ++ sbL p.conf ps ps.length)) w) := by
  refine Ok_up ps.length (fun i w => L95 p ps (B ++ sbL p.conf ps i) w ∧ gt .bad w.E 32 = .sl (ps.map eP) ∧ gt .bad w.E 33 = dI (ps.length : Nat) ∧ gt .bad w.E 34 = dI (i : Nat) ∧ i ≤ ps.length) fun i w hI => ?_
  obtain ⟨E, H⟩ := w
  obtain ⟨⟨bo, ov, e1, e2, h2, e5, h17, ho, hbo, hbl⟩, e18, e19, e20, hk⟩ := hI
  simp only at e1 e2 h2 e5 h17 ho hbl e18 e19 e20
  have w1 : IntKind.wrap .i64 ((i : Int) + 1) = ((i + 1 : Nat) : Int) := by rw [w64 (by omega) (by omega)]; rfl
  by_cases hlt : i < ps.length
  · have d1 : decide ((i : Int) < (ps.length : Int)) = true := decide_eq_true (by omega)
    have q0 : (0 : Int) ≤ (i : Int) := by omega
    have q1 : (i : Int) < (ps.length : Int) := by omega
    have g1 : ps[i]? = some (plc ps i) := getD_at hlt
    have hl := sbL_len p.conf ps i
    have hK : sbL p.conf ps (i + 1) = sbL p.conf ps i ++ sbX p.conf i (plc ps i) := rfl
    have SG := FV_Single p (i : Nat)
    have ho2 : SlB (hs (hs (hs (hs H 8 ⟨(hg H 8).ver + 1, 0, true, [[dI 0]]⟩) 9 ⟨(hg H 9).ver + 1, 0, true, [[dI 0, dI 0]]⟩) 8 ⟨(hg H 8).ver + 1, 0, true, [[dI (i : Nat)]]⟩) 9 ⟨(hg H 9).ver + 1, 0, true, [[dI (plc ps i).home, dI (plc ps i).sby]]⟩) bo 5 ((B ++ sbL p.conf ps i).map eB) ov := by
      rw [SlB_hs (by omega), SlB_hs (by omega), SlB_hs (by omega), SlB_hs (by omega)]; exact ho
    cases h1 : ((plc ps i).sby == -1) with
    | true =>
      cases hs : singB p.conf (i : Nat) with
      | true =>
        rw [hs] at SG
        have hx : sbX p.conf i (plc ps i) = [] := by unfold sbX; rw [if_neg (by rw [hs]; simp)]
        rw [hx, List.append_nil] at hK
        simp -implicitDefEqProofs only [go_sem, ir95_l1, eQ, e1, e2, h2, e5, h17, e18, e19, e20, d1, q0, q1, g1, w1, h1, hs_hs, vpS SG rfl]
        refine .next hlt ⟨⟨bo, ov, ?_, ?_, ?_, ?_, ?_, ?_, hbo, ?_⟩, ?_, ?_, ?_, by omega⟩ <;> (try simp -implicitDefEqProofs only [go_sem, eQ, e1, e2, h2, e5, h17, e18, e19, w1])
        · rw [hK]; exact ho2
        · omega
      | false =>
        rw [hs] at SG
        have hx : sbX p.conf i (plc ps i) = [⟨2, i, -1, -1, -1⟩] := by unfold sbX; rw [if_pos ⟨by simpa using h1, hs⟩]
        rw [hx] at hK
        have A := fun b1 hb1 hb2 hb3 => addZ (p := p) (ps := ps) (bf := 17) (nt := 58) (rule := 2) (gs := 112) (caps := [.mp 8 ((hg H 8).ver + 1) 0 0]) (x := ⟨2, i, -1, -1, -1⟩) rfl (by simp only [List.length_append]; omega) (b1 := b1) (by rw [hg_hs, if_neg (by decide), hg_hs, if_neg (by decide), hg_hs, if_neg (by decide), hg_hs, if_neg (by decide)]; exact h17) ho2 (by decide) (by omega) hb3 hb1 hb2 (set_112 _ _ _ _ _ _ (by rw [hg_hs, if_neg (by decide), hg_hs, if_pos rfl]) (by omega))
        have A1 := fun b1 hb1 hb2 hb3 => (A b1 hb1 hb2 hb3).1
        have hbx : bo < max (max (max (max (max (List.length H) 9) 10) 9) 10) 58 := by omega
        simp -implicitDefEqProofs only [go_sem, ir95_l1, eQ, e1, e2, h2, e5, h17, e18, e19, e20, d1, q0, q1, g1, w1, h1, hs_hs, vpS SG rfl, A1, hbx]
        obtain ⟨_, ov', c1, c2, c3, c4⟩ := A (max (max (max (max (max (List.length H) 9) 10) 9) 10) 58) (by simp only [hs_len]; omega) (by omega) hbx
        have h2' := c3 2 (by omega) (by decide) (by omega)
        rw [hg_hs, if_neg (by decide), hg_hs, if_neg (by decide), hg_hs, if_neg (by decide), hg_hs, if_neg (by decide), h2] at h2'
        generalize FH 110 _ _ _ = H' at c1 c2 c4 h2' ⊢
        have hb58 : 58 ≤ max (max (max (max (max (List.length H) 9) 10) 9) 10) 58 := by omega
        generalize max (max (max (max (max (List.length H) 9) 10) 9) 10) 58 = b1 at *
        refine .next hlt ⟨⟨b1 + 19, ov', ?_, ?_, ?_, ?_, c1, ?_, ?_, ?_⟩, ?_, ?_, ?_, by omega⟩ <;> (try simp -implicitDefEqProofs only [go_sem, eQ, e1, e2, h2', e5, e18, e19, w1])
        · rw [hK, ← List.append_assoc]; exact c2
        · right; omega
        · omega
    | false =>
      have hx : sbX p.conf i (plc ps i) = [] := by unfold sbX; rw [if_neg (fun h => by have := h.1; rw [this] at h1; simp at h1)]
      rw [hx, List.append_nil] at hK
      simp -implicitDefEqProofs only [go_sem, ir95_l1, eQ, e1, e2, h2, e5, h17, e18, e19, e20, d1, q0, q1, g1, w1, h1, hs_hs]
      refine .next hlt ⟨⟨bo, ov, ?_, ?_, ?_, ?_, ?_, ?_, hbo, ?_⟩, ?_, ?_, ?_, by omega⟩ <;> (try simp -implicitDefEqProofs only [go_sem, eQ, e1, e2, h2, e5, h17, e18, e19, w1])
      · rw [hK]; exact ho2
      · omega
  · have hkl : i = ps.length := by omega
    have d1 : decide ((i : Int) < (ps.length : Int)) = false := decide_eq_false (by omega)
    simp -implicitDefEqProofs only [go_sem, ir95_l1, e19, e20, d1]
    subst hkl
    refine .exit ⟨rfl, bo, ov, ?_, ?_, h2, ?_, h17, ho, hbo, hbl⟩ <;> simp -implicitDefEqProofs only [go_sem, e1, e2, e5]
theorem FVF_Full (p : Prob) (hc : ConfOk p.conf) (ps : List Plc) (hps : ps.length ≤ 1000) : FVF PP shF 95 [.agg (eQ p), .sl (ps.map eP)] (.sl ((if fitB p.conf ps = true then fullL p ps else []).map eB)) := by
  refine FVF_ok (F_ok PP95 rfl ⟨by simp [ir95], by simp⟩ ?_)
  have K := FV_Fit p hc.lens ps hps
  cases hf : fitB p.conf ps with
  | false =>
    rw [hf] at K
    simp -implicitDefEqProofs only [go_sem, ir95, eQ, vpS K rfl]
    rfl
  | true =>
    rw [hf] at K
    have hfit := (fit_iff hc ps).1 hf
    have ht5 := hc.t1
    have hpt := hfit.1
    have l1 := hmL_len ps ps.length
    have l2 := sbL_len p.conf ps ps.length
    simp -implicitDefEqProofs only [go_sem, ir95, eQ, vpS K rfl]
    refine (full_l0 p ps (by omega) 0 _ ⟨⟨1, .lit (.slice none 0 0), ?_, ?_, ?_, ?_, ?_, ?_, .inl rfl, ?_⟩, ?_, ?_, ?_, by omega⟩).mono ?_ <;> (try simp -implicitDefEqProofs only [go_sem, eQ])
    · exact SlB.nil
    · decide
    rintro e ⟨E, H⟩ ⟨rfl, bo, ov, e1, e2, h2, e5, h17, ho, hbo, hbl⟩
    simp only at e1 e2 h2 e5 h17 ho hbl
    simp -implicitDefEqProofs only [go_sem, e1]
    refine (full_l1 p ps (hmL ps ps.length) (by omega) (by omega) 0 _ ⟨⟨bo, ov, ?_, ?_, ?_, ?_, ?_, ?_, hbo, ?_⟩, ?_, ?_, ?_, by omega⟩).mono ?_ <;> (try simp -implicitDefEqProofs only [go_sem, e1, e2, h2, e5, h17])
    · simp only [sbL, List.append_nil]; exact ho
    · exact hbl
    clear e1 e2 h2 e5 h17 ho hbo hbl
    rintro e ⟨E, H⟩ ⟨rfl, bo, ov, e1, e2, h2, e5, h17, ho, hbo, hbl⟩
    simp only at e1 e2 h2 e5 h17 ho hbl
    have A := fun b h1 h2 h3 => FH_eq (partial_ok p hc ps hfit (hmL ps ps.length ++ sbL p.conf ps ps.length) (by simp only [List.length_append]; omega) H b 17 1 bo ov h1 h17 ho (by omega) h2 h3)
    have A1 := fun b h1 h2 h3 => (A b h1 h2 h3).1
    have hb58 : 17 < max (List.length H) 58 := by omega
    simp -implicitDefEqProofs only [go_sem, e5, A1, hbl, hb58]
    obtain ⟨_, bo', ov', c1, c2, _⟩ := A (max (List.length H) 58) (by omega) hbl hb58
    generalize FH 105 _ _ _ = H' at c1 c2 ⊢
    simp -implicitDefEqProofs only [go_sem, c1]
    exact ⟨c2.frz (by decide) (closed_eB _) 5, c2.fresh (by decide) (lits_eB _) 4⟩
def L92 (L : List Brk) (k : Nat) (w : VSt) : Prop := gt .bad w.E 0 = .sl (L.map eB) ∧ gt .bad w.E 1 = .sl (L.map eB) ∧ gt .bad w.E 5 = dI (k : Nat) ∧ k ≤ L.length
theorem same17_l0 (L : List Brk) (hL : L.length ≤ 1000000) : ∀ k w, L92 L k w → Ok (R PP shF 0 26 (.loop ir92_l0) w) (fun e w => e = .exit 0) := by
  refine Ok_up L.length (L92 L) fun k w hI => ?_
  obtain ⟨E, H⟩ := w
  obtain ⟨e0, e1, e5, hk⟩ := hI
  simp only at e0 e1 e5
  have w1 : IntKind.wrap .i64 ((k : Int) + 1) = ((k + 1 : Nat) : Int) := by rw [w64 (by omega) (by omega)]; rfl
  by_cases hlt : k < L.length
  · have d1 : decide ((k : Int) < (L.length : Int)) = true := decide_eq_true (by omega)
    have q0 : (0 : Int) ≤ (k : Int) := by omega
    have q1 : (k : Int) < (L.length : Int) := by omega
    have g1 := getD_at (l := L) (i := k) (d := ⟨0, 0, 0, 0, 0⟩) hlt
    have n1 : ∀ x : Int, (x == x) = true := fun x => by simp
    simp -implicitDefEqProofs only [go_sem, ir92_l0, e0, e1, e5, d1, q0, q1, g1, w1, n1]
    refine .next hlt ⟨?_, ?_, ?_, by omega⟩ <;> simp -implicitDefEqProofs only [go_sem, e0, e1, w1]
  · have hkl : k = L.length := by omega
    have d1 : decide ((k : Int) < (L.length : Int)) = false := decide_eq_false (by omega)
    simp -implicitDefEqProofs only [go_sem, ir92_l0, e0, e5, d1]
    exact .exit rfl
theorem FV_Same17 (L : List Brk) (hL : L.length ≤ 1000000) : FV PP shF 92 [.sl (L.map eB), .sl (L.map eB)] = some (dB true) := by
  refine FV_ok (F_ok PP92 rfl ⟨by simp [ir92], by simp⟩ ?_)
  have n1 : ((L.length : Int) != (L.length : Int)) = false := by simp
  simp -implicitDefEqProofs only [go_sem, ir92, n1]
  refine (same17_l0 L hL 0 _ ⟨?_, ?_, ?_, by omega⟩).mono ?_ <;> (try simp -implicitDefEqProofs only [go_sem, ])
  rintro e ⟨E, H⟩ rfl
  simp -implicitDefEqProofs only [go_sem, ]
theorem w0L : ∀ n : Nat, n ≤ 1000000 → IntKind.wrap .i64 ((n : Int) + 1) = ((n + 1 : Nat) : Int) := fun n h => by rw [w64 (by omega) (by omega)]; rfl
def opn (p : Prob) (ps : List Plc) (k : Nat) : Nat := (hmL ps k).length + (sbL p.conf ps k).length
def L85 (p : Prob) (ps : List Plc) (k : Nat) (w : VSt) : Prop := gt .bad w.E 9 = .mp 9 1 0 0 ∧ hg w.H 9 = ⟨1, 0, true, [eQ p]⟩ ∧ gt .bad w.E 10 = .sl (ps.map eP) ∧ gt .bad w.E 11 = dI (opn p ps k : Nat) ∧ gt .bad w.E 12 = dI (k : Nat) ∧ k ≤ ps.length
theorem rfull85_l0 (p : Prob) (hc : ConfOk p.conf) (ps : List Plc) (hfit : FitP p.conf ps) (hps : ps.length ≤ 1000) : ∀ k w, L85 p ps k w → Ok (R PP shF 0 102 (.loop ir85_l0) w) (fun e w => e = .exit 0 ∧ L85 p ps ps.length w) := by
  refine Ok_up ps.length (L85 p ps) fun k w hI => ?_
  obtain ⟨E, H⟩ := w
  obtain ⟨e9, h9, e10, e11, e12, hk⟩ := hI
  simp only at e9 h9 e10 e11 e12
  have w1 := w0L k (by omega)
  by_cases hlt : k < ps.length
  · have d1 : decide ((k : Int) < (ps.length : Int)) = true := decide_eq_true (by omega)
    have q0 : (0 : Int) ≤ (k : Int) := by omega
    have q1 : (k : Int) < (ps.length : Int) := by omega
    have g1 : ps[k]? = some (plc ps k) := getD_at hlt
    have hl := hmL_len ps k
    have hl2 := sbL_len p.conf ps k
    have t0 := two_lo hfit hlt 0
    have t1 := two_lo hfit hlt 1
    rw [show two2 (plc ps k) 0 = (plc ps k).home from rfl] at t0
    rw [show two2 (plc ps k) 1 = (plc ps k).sby from rfl] at t1
    have SG := FV_Single p (k : Nat)
    have hO : opn p ps (k + 1) = opn p ps k + (hmX k (plc ps k)).length + (sbX p.conf k (plc ps k)).length := by
      unfold opn; simp only [hmL, sbL, List.length_append]; omega
    have ho : opn p ps k ≤ 2000 := by unfold opn; omega
    have w2 := w0L (opn p ps k) (by omega)
    have w3 := w0L (opn p ps k + 1) (by omega)
    by_cases hh : (plc ps k).home = -1
    · have x1 : (hmX k (plc ps k)).length = 1 := by unfold hmX; rw [if_pos hh]; rfl
      have f1 : decide ((plc ps k).home < 0) = true := decide_eq_true (by omega)
      by_cases hs : (plc ps k).sby = -1
      · have f2 : decide ((plc ps k).sby < 0) = true := decide_eq_true (by omega)
        cases hg : singB p.conf (k : Nat) with
        | true =>
          have x2 : (sbX p.conf k (plc ps k)).length = 0 := by unfold sbX; rw [if_neg (by rw [hg]; simp)]; rfl
          rw [hg] at SG
          rw [x1, x2] at hO
          simp -implicitDefEqProofs only [go_sem, ir85_l0, eQ, e9, h9, e10, e11, e12, d1, q0, q1, g1, w1, w2, w3, f1, f2, vpS SG rfl]
          refine .next hlt ⟨?_, ?_, ?_, ?_, ?_, by omega⟩ <;> simp -implicitDefEqProofs only [go_sem, eQ, e9, h9, e10, w1, hO]
        | false =>
          have x2 : (sbX p.conf k (plc ps k)).length = 1 := by unfold sbX; rw [if_pos ⟨hs, hg⟩]; rfl
          rw [hg] at SG
          rw [x1, x2] at hO
          simp -implicitDefEqProofs only [go_sem, ir85_l0, eQ, e9, h9, e10, e11, e12, d1, q0, q1, g1, w1, w2, w3, f1, f2, vpS SG rfl]
          refine .next hlt ⟨?_, ?_, ?_, ?_, ?_, by omega⟩ <;> simp -implicitDefEqProofs only [go_sem, eQ, e9, h9, e10, w1, hO]
      · have f2 : decide ((plc ps k).sby < 0) = false := decide_eq_false (by omega)
        have x2 : (sbX p.conf k (plc ps k)).length = 0 := by unfold sbX; rw [if_neg (fun h => hs h.1)]; rfl
        rw [x1, x2] at hO
        simp -implicitDefEqProofs only [go_sem, ir85_l0, eQ, e9, h9, e10, e11, e12, d1, q0, q1, g1, w1, w2, w3, f1, f2]
        refine .next hlt ⟨?_, ?_, ?_, ?_, ?_, by omega⟩ <;> simp -implicitDefEqProofs only [go_sem, eQ, e9, h9, e10, w1, hO]
    · have x1 : (hmX k (plc ps k)).length = 0 := by unfold hmX; rw [if_neg hh]; rfl
      have f1 : decide ((plc ps k).home < 0) = false := decide_eq_false (by omega)
      by_cases hs : (plc ps k).sby = -1
      · have f2 : decide ((plc ps k).sby < 0) = true := decide_eq_true (by omega)
        cases hg : singB p.conf (k : Nat) with
        | true =>
          have x2 : (sbX p.conf k (plc ps k)).length = 0 := by unfold sbX; rw [if_neg (by rw [hg]; simp)]; rfl
          rw [hg] at SG
          rw [x1, x2] at hO
          simp -implicitDefEqProofs only [go_sem, ir85_l0, eQ, e9, h9, e10, e11, e12, d1, q0, q1, g1, w1, w2, w3, f1, f2, vpS SG rfl]
          refine .next hlt ⟨?_, ?_, ?_, ?_, ?_, by omega⟩ <;> simp -implicitDefEqProofs only [go_sem, eQ, e9, h9, e10, e11, w1, hO]
        | false =>
          have x2 : (sbX p.conf k (plc ps k)).length = 1 := by unfold sbX; rw [if_pos ⟨hs, hg⟩]; rfl
          rw [hg] at SG
          rw [x1, x2] at hO
          simp -implicitDefEqProofs only [go_sem, ir85_l0, eQ, e9, h9, e10, e11, e12, d1, q0, q1, g1, w1, w2, w3, f1, f2, vpS SG rfl]
          refine .next hlt ⟨?_, ?_, ?_, ?_, ?_, by omega⟩ <;> simp -implicitDefEqProofs only [go_sem, eQ, e9, h9, e10, w1, hO]
      · have f2 : decide ((plc ps k).sby < 0) = false := decide_eq_false (by omega)
        have x2 : (sbX p.conf k (plc ps k)).length = 0 := by unfold sbX; rw [if_neg (fun h => hs h.1)]; rfl
        rw [x1, x2] at hO
        simp -implicitDefEqProofs only [go_sem, ir85_l0, eQ, e9, h9, e10, e11, e12, d1, q0, q1, g1, w1, w2, w3, f1, f2]
        refine .next hlt ⟨?_, ?_, ?_, ?_, ?_, by omega⟩ <;> simp -implicitDefEqProofs only [go_sem, eQ, e9, h9, e10, e11, w1, hO]
  · have hkl : k = ps.length := by omega
    have d1 : decide ((k : Int) < (ps.length : Int)) = false := decide_eq_false (by omega)
    simp -implicitDefEqProofs only [go_sem, ir85_l0, e10, e12, d1]
    subst hkl
    refine .exit ⟨rfl, ?_, h9, ?_, ?_, ?_, by omega⟩ <;> simp -implicitDefEqProofs only [go_sem, e9, e10, e11, e12]
theorem hmL_rule (ps : List Plc) : ∀ k, ∀ x ∈ hmL ps k, x.rule = 1
  | 0 => by simp [hmL]
  | k + 1 => by
    intro x hx
    rcases List.mem_append.1 hx with h | h
    · exact hmL_rule ps k x h
    · unfold hmX at h; split at h <;> simp at h; subst h; rfl
theorem sbL_rule (c : Conf) (ps : List Plc) : ∀ k, ∀ x ∈ sbL c ps k, x.rule = 2
  | 0 => by simp [sbL]
  | k + 1 => by
    intro x hx
    rcases List.mem_append.1 hx with h | h
    · exact sbL_rule c ps k x h
    · unfold sbX at h; split at h <;> simp at h; subst h; rfl
def L85b (L : List Brk) (n : Nat) (k : Nat) (w : VSt) : Prop := gt .bad w.E 14 = .sl (L.map eB) ∧ gt .bad w.E 11 = dI (n : Nat) ∧ gt .bad w.E 15 = dI (k : Nat) ∧ k ≤ n
theorem rfull85_l1 (L : List Brk) (n : Nat) (hn : n ≤ L.length) (hL : L.length ≤ 1000) (hr : ∀ k, k < n → (L.getD k ⟨0, 0, 0, 0, 0⟩).rule = 1 ∨ (L.getD k ⟨0, 0, 0, 0, 0⟩).rule = 2) (M : DV) :
    ∀ k w, (L85b L n k w ∧ gt .bad w.E 13 = M) → Ok (R PP shF 0 102 (.loop ir85_l1) w) (fun e w => e = .exit 2 ∧ L85b L n n w ∧ gt .bad w.E 13 = M) := by
  refine Ok_up n (fun k w => L85b L n k w ∧ gt .bad w.E 13 = M) fun k w hI => ?_
  obtain ⟨E, H⟩ := w
  obtain ⟨⟨e14, e11, e15, hk⟩, e13⟩ := hI
  simp only at e14 e11 e15 e13
  have w1 := w0L k (by omega)
  by_cases hlt : k < n
  · have d1 : decide ((k : Int) < (n : Int)) = true := decide_eq_true (by omega)
    have q0 : (0 : Int) ≤ (k : Int) := by omega
    have q1 : (k : Int) < (L.length : Int) := by omega
    have g1 := getD_at (l := L) (i := k) (d := ⟨0, 0, 0, 0, 0⟩) (by omega)
    have k1 : ((1 : Int) != 1) = false := rfl
    have k2 : ((2 : Int) != 1) = true := rfl
    have k3 : ((2 : Int) != 2) = false := rfl
    rcases hr k hlt with f | f
    · simp -implicitDefEqProofs only [go_sem, ir85_l1, e14, e11, e15, d1, q0, q1, g1, w1, f, k1, k2, k3]
      refine .next hlt ⟨⟨?_, ?_, ?_, by omega⟩, ?_⟩ <;> simp -implicitDefEqProofs only [go_sem, e14, e11, w1, e13]
    · simp -implicitDefEqProofs only [go_sem, ir85_l1, e14, e11, e15, d1, q0, q1, g1, w1, f, k1, k2, k3]
      refine .next hlt ⟨⟨?_, ?_, ?_, by omega⟩, ?_⟩ <;> simp -implicitDefEqProofs only [go_sem, e14, e11, w1, e13]
  · have hkl : k = n := by omega
    have d1 : decide ((k : Int) < (n : Int)) = false := decide_eq_false (by omega)
    simp -implicitDefEqProofs only [go_sem, ir85_l1, e11, e15, d1]
    subst hkl
    refine .exit ⟨rfl, ⟨?_, ?_, ?_, by omega⟩, ?_⟩ <;> simp -implicitDefEqProofs only [go_sem, e14, e11, e15, e13]
theorem getD_mem {α : Type} {l : List α} {i : Nat} {d : α} (h : i < l.length) : l.getD i d ∈ l := by
  rw [List.getD_eq_getElem?_getD, List.getElem?_eq_getElem h]; exact List.getElem_mem h
theorem all_eB (L : List Brk) : (L.map eB).all (fun el => el.length == 5) = true := by simp [List.all_eq_true, eB]
theorem law_RulesFull (l : List Int) (hl : I64s l) (m : List Int) (hm : I64s m) (cells : Int) (h1 : I64 cells) (hr : Bool) : OkF (F PP shF 85 [dL l, dL m, dI cells, dB hr] [] 0) (fun d _ => d = dB true) := by
  refine F_ok PP85 rfl ⟨by simp [ir85], by simp⟩ ?_
  have L := FV_Light l
  have L2 := FV_Light m
  by_cases hlen : l.length ≤ 200
  case neg => rw [decide_eq_false hlen] at L; simp -implicitDefEqProofs only [go_sem, ir85, vpS L rfl, vpS FV_awake17 rfl]
  rw [decide_eq_true hlen] at L
  by_cases hlen2 : m.length ≤ 200
  case neg => rw [decide_eq_false hlen2] at L2; simp -implicitDefEqProofs only [go_sem, ir85, vpS L rfl, vpS L2 rfl, vpS FV_awake17 rfl]
  rw [decide_eq_true hlen2] at L2
  obtain ⟨p, hc, hcells, _, hP⟩ := FV_Problem l hl cells h1 hr
  obtain ⟨ps, hps1, hps2, hQ⟩ := FVF_Places m hm p.conf hc
  have hfit : FitP p.conf ps := ⟨hps1, hps2⟩
  have ht := hc.t1
  simp -implicitDefEqProofs only [go_sem, ir85, vpS L rfl, vpS L2 rfl, vpL hP rfl, eQ, eK, vpF hQ rfl]
  refine (rfull85_l0 p hc ps hfit (by omega) 0 _ ⟨?_, ?_, ?_, ?_, ?_, by omega⟩).mono ?_ <;> (try simp -implicitDefEqProofs only [go_sem, eQ]) <;> try rfl
  rintro e ⟨E, H⟩ ⟨rfl, e9, h9, e10, e11, e12, _⟩
  simp only at e9 h9 e10 e11 e12
  have A1 := FVF_Partial p hc ps (by omega)
  have A3 := FVF_Full p hc ps (by omega)
  rw [(fit_iff hc ps).2 hfit, if_pos rfl] at A1 A3
  have pl := partL_len hc hfit
  have fl : (fullL p ps).length = opn p ps ps.length + (partL p ps).length := by unfold fullL opn; simp only [List.length_append]
  have hl := hmL_len ps ps.length
  have hl2 := sbL_len p.conf ps ps.length
  have ho : opn p ps ps.length ≤ 100 := by unfold opn; omega
  have w1 : IntKind.wrap .i64 (((opn p ps ps.length : Nat) : Int) + ((partL p ps).length : Nat)) = (((fullL p ps).length : Nat) : Int) := by rw [w64 (by omega) (by omega), fl]; rfl
  have n1 : ∀ x : Int, (x != x) = false := fun x => by simp
  simp -implicitDefEqProofs only [go_sem, eQ, e9, h9, e10, e11, vpF A1 rfl, vpF A3 rfl, vpS FV_awake17 rfl, w1, n1]
  refine (rfull85_l1 (fullL p ps) (opn p ps ps.length) (by omega) (by omega) (fun k hk => ?_) (.sl ((partL p ps).map eB)) 0 _ ⟨⟨?_, ?_, ?_, by omega⟩, ?_⟩).mono ?_ <;> (try simp -implicitDefEqProofs only [go_sem, e11]) <;> try rfl
  · have hm : (fullL p ps).getD k ⟨0, 0, 0, 0, 0⟩ ∈ hmL ps ps.length ++ sbL p.conf ps ps.length := by
      have hk2 : k < (hmL ps ps.length ++ sbL p.conf ps ps.length).length := by rw [List.length_append]; exact hk
      unfold fullL
      rw [List.getD_eq_getElem?_getD, List.getElem?_append_left hk2, ← List.getD_eq_getElem?_getD]
      exact getD_mem hk2
    rcases List.mem_append.1 hm with h | h
    · exact .inl (hmL_rule _ _ _ h)
    · exact .inr (sbL_rule _ _ _ _ h)
  rintro e ⟨E, H⟩ ⟨rfl, ⟨e14, e11, e15, _⟩, e13⟩
  simp only at e14 e11 e15 e13
  have S1 := FV_Same17 (partL p ps) (by omega)
  have q0 : (0 : Int) ≤ ((opn p ps ps.length : Nat) : Int) := by omega
  have q1 : ((opn p ps ps.length : Nat) : Int) ≤ (((fullL p ps).length : Nat) : Int) := by omega
  have q2 : (((fullL p ps).length : Nat) : Int) ≤ (((fullL p ps).length : Nat) : Int) := by omega
  have ha := all_eB (fullL p ps)
  have hd : ((fullL p ps).map eB).drop (opn p ps ps.length) = (partL p ps).map eB := by
    rw [← List.map_drop]; unfold fullL opn
    rw [← List.length_append, List.drop_left]
  have htk : ((partL p ps).map eB).take ((fullL p ps).length - opn p ps ps.length) = (partL p ps).map eB := by
    rw [fl, Nat.add_sub_cancel_left]; apply List.take_of_length_le; rw [List.length_map]; omega
  simp -implicitDefEqProofs only [go_sem, e14, e11, e13, q0, q1, q2, ha, hd, htk, vpS S1 rfl]
end Go.Proofs.Cp
