/- What the functions answer (part 1). -/
import Derived.Test.YtjgijnimbnielaaDoorFn0
set_option linter.unusedSimpArgs false
set_option linter.unusedVariables false
set_option maxRecDepth 100000
namespace Go.Proofs.Cp
open Go
theorem zones_l0 (c : Conf) (hz : c.zones.length ≤ 1000) (l : List Int) (hl : l.length ≤ 1000) : ∀ k w, L79 c l k w → Ok (R PP shF 0 21 (.loop ir79_l0) w) (Qb (zonesB c l) 4) := by
  refine Ok_up l.length (L79 c l) fun k w hI => ?_
  obtain ⟨E, H⟩ := w
  obtain ⟨e7, e8, e2, h2, e9, hk, ha⟩ := hI
  simp only at e7 e8 e2 h2 e9
  have w1 : IntKind.wrap .i64 ((k : Int) + 1) = ((k + 1 : Nat) : Int) := by rw [w64 (by omega) (by omega)]; rfl
  have w2 : IntKind.wrap .i64 ((c.zones.length : Int) - 1) = (c.zones.length : Int) - 1 := w64 (by omega) (by omega)
  by_cases hlt : k < l.length
  · have d1 : decide ((k : Int) < (l.length : Int)) = true := by simp; omega
    have q1 : (k : Int) < (l.length : Int) := by omega
    have q0 : (0 : Int) ≤ (k : Int) := by omega
    have g1 := getD_at (l := l) (i := k) (d := 0) hlt
    have B := FV_tb (l.getD k 0) 0 ((c.zones.length : Int) - 1)
    cases hb : inB (l.getD k 0) 0 ((c.zones.length : Int) - 1) with
    | true =>
      rw [hb] at B
      simp -implicitDefEqProofs only [go_sem, ir79_l0, eK, e7, e8, e2, h2, e9, d1, q0, q1, g1, w1, w2, vpS B rfl]
      refine .next hlt ⟨?_, ?_, ?_, ?_, ?_, by omega, allN_next ha hb⟩ <;> simp -implicitDefEqProofs only [go_sem, e7, e8, e2, h2, w1, eK]
    | false =>
      rw [hb] at B
      simp -implicitDefEqProofs only [go_sem, ir79_l0, eK, e7, e8, e2, h2, e9, d1, q0, q1, g1, w1, w2, vpS B rfl]
      refine .ret (.inr ⟨rfl, allN_false hb _ hlt, ?_⟩)
      simp -implicitDefEqProofs only [go_sem, ]
  · have : k = l.length := by omega
    subst this
    have d1 : decide ((l.length : Int) < (l.length : Int)) = false := by simp
    simp -implicitDefEqProofs only [go_sem, ir79_l0, eK, e8, e9, d1]
    exact .exit (.inl ⟨rfl, ha⟩)
theorem FV_zones (c : Conf) (hz : c.zones.length ≤ 1000) (l : List Int) (hl : l.length ≤ 1000) : FV PP shF 79 [.agg (eK c), dL l] = some (dB (zonesB c l)) := by
  refine FV_ok (F_ok PP79 rfl ⟨by simp [ir79], by simp⟩ ?_)
  simp -implicitDefEqProofs only [go_sem, ir79, eK]
  refine (zones_l0 c hz l hl 0 _ ⟨?_, ?_, ?_, ?_, ?_, by omega, rfl⟩).mono ?_ <;> (try simp -implicitDefEqProofs only [go_sem, eK])
  rintro e ⟨E, H⟩ (⟨rfl, hb⟩ | ⟨rfl, hb, e4⟩)
  · simp -implicitDefEqProofs only [go_sem, hb]
  · simp only at e4
    simp -implicitDefEqProofs only [go_sem, hb, e4]
def qZ (c : Conf) (i : Nat) : Bool := inB (c.zones.getD i 0) 0 (c.regions - 1)
def qC (c : Conf) (i : Nat) : Bool := inB (c.cells.getD i ⟨0, 0⟩).zone 0 ((c.zones.length : Int) - 1) && inB (c.cells.getD i ⟨0, 0⟩).cap 1 4194304
def qV (c : Conf) (i : Nat) : Bool := decide (0 ≤ (c.vers.getD i ⟨0, 0⟩).low) && decide ((c.vers.getD i ⟨0, 0⟩).low ≤ (c.vers.getD i ⟨0, 0⟩).high) && decide ((c.vers.getD i ⟨0, 0⟩).high ≤ 30)
def firstB (c : Conf) : Bool := (c.vers.getD 0 ⟨0, 0⟩).low == 0
def placedB (c : Conf) : Bool := allN (qZ c) c.zones.length && allN (qC c) c.cells.length && zonesB c c.reps && zonesB c c.obs
def K64 (c : Conf) (w : VSt) : Prop := gt .bad w.E 1 = .mp 1 1 0 0 ∧ hg w.H 1 = ⟨1, 0, true, [eK c]⟩
def L64a (c : Conf) (k : Nat) (w : VSt) : Prop := K64 c w ∧ gt .bad w.E 8 = .sl (c.zones.map eI) ∧ gt .bad w.E 9 = dI (c.zones.length : Nat) ∧ gt .bad w.E 10 = dI (k : Nat) ∧ k ≤ c.zones.length ∧ allN (qZ c) k = true
theorem placed_l0 (c : Conf) (hc : Lens c) (hr : 1 ≤ c.regions ∧ c.regions ≤ 4) : ∀ k w, L64a c k w → Ok (R PP shF 0 54 (.loop ir64_l0) w) (fun e w => (e = .exit 0 ∧ allN (qZ c) c.zones.length = true ∧ K64 c w) ∨ (e = .ret ∧ allN (qZ c) c.zones.length = false ∧ gt .bad w.E 2 = dB false)) := by
  refine Ok_up c.zones.length (L64a c) fun k w hI => ?_
  obtain ⟨E, H⟩ := w
  obtain ⟨⟨e1, h1⟩, e8, e9, e10, hk, ha⟩ := hI
  simp only at e1 h1 e8 e9 e10
  have hz := hc.z
  have w1 : IntKind.wrap .i64 ((k : Int) + 1) = ((k + 1 : Nat) : Int) := by rw [w64 (by omega) (by omega)]; rfl
  have w2 : IntKind.wrap .i64 (c.regions - 1) = c.regions - 1 := w64 (by omega) (by omega)
  by_cases hlt : k < c.zones.length
  · have d1 : decide ((k : Int) < (c.zones.length : Int)) = true := by simp; omega
    have q1 : (k : Int) < (c.zones.length : Int) := by omega
    have q0 : (0 : Int) ≤ (k : Int) := by omega
    have g1 := getD_at (l := c.zones) (i := k) (d := 0) hlt
    have B := FV_tb (c.zones.getD k 0) 0 (c.regions - 1)
    rw [show inB (c.zones.getD k 0) 0 (c.regions - 1) = qZ c k from rfl] at B
    cases hb : qZ c k with
    | true =>
      rw [hb] at B
      simp -implicitDefEqProofs only [go_sem, ir64_l0, eK, e1, h1, e8, e9, e10, d1, q0, q1, g1, w1, w2, vpS B rfl]
      refine .next hlt ⟨⟨?_, ?_⟩, ?_, ?_, ?_, by omega, allN_next ha hb⟩ <;> simp -implicitDefEqProofs only [go_sem, e1, h1, e8, e9, w1, eK]
    | false =>
      rw [hb] at B
      simp -implicitDefEqProofs only [go_sem, ir64_l0, eK, e1, h1, e8, e9, e10, d1, q0, q1, g1, w1, w2, vpS B rfl]
      refine .ret (.inr ⟨rfl, allN_false hb _ hlt, ?_⟩)
      simp -implicitDefEqProofs only [go_sem, ]
  · have : k = c.zones.length := by omega
    subst this
    have d1 : decide ((c.zones.length : Int) < (c.zones.length : Int)) = false := by simp
    simp -implicitDefEqProofs only [go_sem, ir64_l0, eK, e9, e10, d1]
    exact .exit (.inl ⟨rfl, ha, by simp -implicitDefEqProofs only [go_sem, e1], h1⟩)
def L64b (c : Conf) (k : Nat) (w : VSt) : Prop := K64 c w ∧ gt .bad w.E 23 = .sl (c.cells.map eC) ∧ gt .bad w.E 24 = dI (c.cells.length : Nat) ∧ gt .bad w.E 25 = dI (k : Nat) ∧ k ≤ c.cells.length ∧ allN (qC c) k = true
theorem placed_l1 (c : Conf) (hc : Lens c) : ∀ k w, L64b c k w → Ok (R PP shF 0 54 (.loop ir64_l1) w) (fun e w => (e = .exit 2 ∧ allN (qC c) c.cells.length = true ∧ K64 c w) ∨ (e = .ret ∧ allN (qC c) c.cells.length = false ∧ gt .bad w.E 2 = dB false)) := by
  refine Ok_up c.cells.length (L64b c) fun k w hI => ?_
  obtain ⟨E, H⟩ := w
  obtain ⟨⟨e1, h1⟩, e23, e24, e25, hk, ha⟩ := hI
  simp only at e1 h1 e23 e24 e25
  have hz := hc.z
  have hcl := hc.c
  have w1 : IntKind.wrap .i64 ((k : Int) + 1) = ((k + 1 : Nat) : Int) := by rw [w64 (by omega) (by omega)]; rfl
  have w2 : IntKind.wrap .i64 ((c.zones.length : Int) - 1) = (c.zones.length : Int) - 1 := w64 (by omega) (by omega)
  by_cases hlt : k < c.cells.length
  · have d1 : decide ((k : Int) < (c.cells.length : Int)) = true := by simp; omega
    have q1 : (k : Int) < (c.cells.length : Int) := by omega
    have q0 : (0 : Int) ≤ (k : Int) := by omega
    have g1 := getD_at (l := c.cells) (i := k) (d := ⟨0, 0⟩) hlt
    have B1 := FV_tb (c.cells.getD k ⟨0, 0⟩).zone 0 ((c.zones.length : Int) - 1)
    have B2 := FV_tb (c.cells.getD k ⟨0, 0⟩).cap 1 4194304
    have hq : qC c k = (inB (c.cells.getD k ⟨0, 0⟩).zone 0 ((c.zones.length : Int) - 1) && inB (c.cells.getD k ⟨0, 0⟩).cap 1 4194304) := rfl
    cases x1 : inB (c.cells.getD k ⟨0, 0⟩).zone 0 ((c.zones.length : Int) - 1) with
    | true =>
      rw [x1] at B1
      cases x2 : inB (c.cells.getD k ⟨0, 0⟩).cap 1 4194304 with
      | true =>
        rw [x2] at B2
        rw [x1, x2] at hq
        simp -implicitDefEqProofs only [go_sem, ir64_l1, eK, e1, h1, e23, e24, e25, d1, q0, q1, g1, w1, w2, vpS B1 rfl, vpS B2 rfl]
        refine .next hlt ⟨⟨?_, ?_⟩, ?_, ?_, ?_, by omega, allN_next ha hq⟩ <;> simp -implicitDefEqProofs only [go_sem, e1, h1, e23, e24, w1, eK]
      | false =>
        rw [x2] at B2
        rw [x1, x2] at hq
        simp -implicitDefEqProofs only [go_sem, ir64_l1, eK, e1, h1, e23, e24, e25, d1, q0, q1, g1, w1, w2, vpS B1 rfl, vpS B2 rfl]
        refine .ret (.inr ⟨rfl, allN_false hq _ hlt, ?_⟩)
        simp -implicitDefEqProofs only [go_sem, ]
    | false =>
      rw [x1] at B1
      rw [x1] at hq
      simp -implicitDefEqProofs only [go_sem, ir64_l1, eK, e1, h1, e23, e24, e25, d1, q0, q1, g1, w1, w2, vpS B1 rfl, vpS B2 rfl]
      refine .ret (.inr ⟨rfl, allN_false hq _ hlt, ?_⟩)
      simp -implicitDefEqProofs only [go_sem, ]
  · have : k = c.cells.length := by omega
    subst this
    have d1 : decide ((c.cells.length : Int) < (c.cells.length : Int)) = false := by simp
    simp -implicitDefEqProofs only [go_sem, ir64_l1, eK, e24, e25, d1]
    exact .exit (.inl ⟨rfl, ha, by simp -implicitDefEqProofs only [go_sem, e1], h1⟩)
theorem FV_placed (c : Conf) (hc : Lens c) (hr : 1 ≤ c.regions ∧ c.regions ≤ 4) : FV PP shF 64 [.agg (eK c)] = some (dB (placedB c)) := by
  have Z1 := FV_zones c hc.z c.reps hc.p
  have Z2 := FV_zones c hc.z c.obs hc.o
  refine FV_ok (F_ok PP64 rfl ⟨by simp [ir64], by simp⟩ ?_)
  unfold placedB
  simp -implicitDefEqProofs only [go_sem, ir64, eK]
  refine (placed_l0 c hc hr 0 _ ⟨⟨?_, ?_⟩, ?_, ?_, ?_, by omega, rfl⟩).mono ?_ <;> (try simp -implicitDefEqProofs only [go_sem, eK])
  rintro e ⟨E, H⟩ (⟨rfl, hb, e1, h1⟩ | ⟨rfl, hb, e4⟩)
  · simp only at e1 h1
    simp -implicitDefEqProofs only [go_sem, eK, e1, h1, hb]
    refine (placed_l1 c hc 0 _ ⟨⟨?_, ?_⟩, ?_, ?_, ?_, by omega, rfl⟩).mono ?_ <;> (try simp -implicitDefEqProofs only [go_sem, e1, h1, eK])
    rintro e ⟨E, H⟩ (⟨rfl, hb, e1, h1⟩ | ⟨rfl, hb, e4⟩)
    · simp only at e1 h1
      generalize zonesB c c.reps = z1 at *
      generalize zonesB c c.obs = z2 at *
      cases z1
      · simp -implicitDefEqProofs only [go_sem, eK, e1, h1, hb, vpS Z1 rfl]
      · simp -implicitDefEqProofs only [go_sem, eK, e1, h1, hb, vpS Z1 rfl, vpS Z2 rfl]
    · simp only at e4
      simp -implicitDefEqProofs only [go_sem, hb, e4]
  · simp only at e4
    simp -implicitDefEqProofs only [go_sem, hb, e4]
def versB (c : Conf) : Bool := allN (qV c) c.vers.length && firstB c
def qV2 (c : Conf) (i : Nat) : Bool := qV c i && (decide (i ≠ 0) || firstB c)
def L65 (c : Conf) (k : Nat) (w : VSt) : Prop := gt .bad w.E 6 = .sl (c.vers.map eV) ∧ gt .bad w.E 7 = dI (c.vers.length : Nat) ∧ gt .bad w.E 8 = dI (k : Nat) ∧ k ≤ c.vers.length ∧ allN (qV2 c) k = true
theorem vers_l0 (c : Conf) (hc : Lens c) : ∀ k w, L65 c k w → Ok (R PP shF 0 38 (.loop ir65_l0) w) (Qb (allN (qV2 c) c.vers.length) 2) := by
  refine Ok_up c.vers.length (L65 c) fun k w hI => ?_
  obtain ⟨E, H⟩ := w
  obtain ⟨e6, e7, e8, hk, ha⟩ := hI
  simp only at e6 e7 e8
  have hv := hc.v
  have w1 : IntKind.wrap .i64 ((k : Int) + 1) = ((k + 1 : Nat) : Int) := by rw [w64 (by omega) (by omega)]; rfl
  by_cases hlt : k < c.vers.length
  · have d1 : decide ((k : Int) < (c.vers.length : Int)) = true := by simp; omega
    have q1 : (k : Int) < (c.vers.length : Int) := by omega
    have q0 : (0 : Int) ≤ (k : Int) := by omega
    have g1 := getD_at (l := c.vers) (i := k) (d := ⟨0, 0⟩) hlt
    by_cases a1 : 0 ≤ (c.vers.getD k ⟨0, 0⟩).low
    · have b1 : decide ((c.vers.getD k ⟨0, 0⟩).low < 0) = false := decide_eq_false (by omega)
      by_cases a2 : (c.vers.getD k ⟨0, 0⟩).low ≤ (c.vers.getD k ⟨0, 0⟩).high
      · have b2 : decide ((c.vers.getD k ⟨0, 0⟩).high < (c.vers.getD k ⟨0, 0⟩).low) = false := decide_eq_false (by omega)
        by_cases a3 : (c.vers.getD k ⟨0, 0⟩).high ≤ 30
        · have b3 : decide (30 < (c.vers.getD k ⟨0, 0⟩).high) = false := decide_eq_false (by omega)
          by_cases a4 : k = 0
          · have b4 : ((k : Int) == 0) = true := by simp; exact a4
            cases hf : firstB c with
            | true =>
              have b5 : ((c.vers.getD k ⟨0, 0⟩).low != 0) = false := by rw [a4]; unfold firstB at hf; simp only [bne, hf]; rfl
              have hq : qV2 c k = true := by unfold qV2 qV; rw [decide_eq_true a1, decide_eq_true a2, decide_eq_true a3, hf, Bool.or_true]; rfl
              simp -implicitDefEqProofs only [go_sem, ir65_l0, eK, e6, e7, e8, d1, q0, q1, g1, w1, b1, b2, b3, b4, b5]
              refine .next hlt ⟨?_, ?_, ?_, by omega, allN_next ha hq⟩ <;> simp -implicitDefEqProofs only [go_sem, e6, e7, w1, eK]
            | false =>
              have b5 : ((c.vers.getD k ⟨0, 0⟩).low != 0) = true := by rw [a4]; unfold firstB at hf; simp only [bne, hf]; rfl
              have hq : qV2 c k = false := by simp [qV2, hf, a4]
              simp -implicitDefEqProofs only [go_sem, ir65_l0, eK, e6, e7, e8, d1, q0, q1, g1, w1, b1, b2, b3, b4, b5]
              refine .ret (.inr ⟨rfl, allN_false hq _ hlt, ?_⟩)
              simp -implicitDefEqProofs only [go_sem, ]
          · have b4 : ((k : Int) == 0) = false := by simp; exact a4
            have hq : qV2 c k = true := by unfold qV2 qV; rw [decide_eq_true a1, decide_eq_true a2, decide_eq_true a3, decide_eq_true (show k ≠ 0 from a4), Bool.true_or]; rfl
            simp -implicitDefEqProofs only [go_sem, ir65_l0, eK, e6, e7, e8, d1, q0, q1, g1, w1, b1, b2, b3, b4]
            refine .next hlt ⟨?_, ?_, ?_, by omega, allN_next ha hq⟩ <;> simp -implicitDefEqProofs only [go_sem, e6, e7, w1, eK]
        · have b3 : decide (30 < (c.vers.getD k ⟨0, 0⟩).high) = true := decide_eq_true (by omega)
          have hq : qV2 c k = false := by unfold qV2 qV; rw [decide_eq_false a3, Bool.and_false, Bool.false_and]
          simp -implicitDefEqProofs only [go_sem, ir65_l0, eK, e6, e7, e8, d1, q0, q1, g1, w1, b1, b2, b3]
          refine .ret (.inr ⟨rfl, allN_false hq _ hlt, ?_⟩)
          simp -implicitDefEqProofs only [go_sem, ]
      · have b2 : decide ((c.vers.getD k ⟨0, 0⟩).high < (c.vers.getD k ⟨0, 0⟩).low) = true := decide_eq_true (by omega)
        have hq : qV2 c k = false := by unfold qV2 qV; rw [decide_eq_false a2, Bool.and_false, Bool.false_and, Bool.false_and]
        simp -implicitDefEqProofs only [go_sem, ir65_l0, eK, e6, e7, e8, d1, q0, q1, g1, w1, b1, b2]
        refine .ret (.inr ⟨rfl, allN_false hq _ hlt, ?_⟩)
        simp -implicitDefEqProofs only [go_sem, ]
    · have b1 : decide ((c.vers.getD k ⟨0, 0⟩).low < 0) = true := decide_eq_true (by omega)
      have hq : qV2 c k = false := by unfold qV2 qV; rw [decide_eq_false a1, Bool.false_and, Bool.false_and, Bool.false_and]
      simp -implicitDefEqProofs only [go_sem, ir65_l0, eK, e6, e7, e8, d1, q0, q1, g1, w1, b1]
      refine .ret (.inr ⟨rfl, allN_false hq _ hlt, ?_⟩)
      simp -implicitDefEqProofs only [go_sem, ]
  · have : k = c.vers.length := by omega
    subst this
    have d1 : decide ((c.vers.length : Int) < (c.vers.length : Int)) = false := by simp
    simp -implicitDefEqProofs only [go_sem, ir65_l0, eK, e7, e8, d1]
    exact .exit (.inl ⟨rfl, ha⟩)
theorem versB_eq (c : Conf) (h : c.vers.length ≠ 0) : allN (qV2 c) c.vers.length = versB c := by
  have key : ∀ n : Nat, allN (qV2 c) (n + 1) = (allN (qV c) (n + 1) && firstB c) := by
    intro n
    induction n with
    | zero => simp [allN, qV2]
    | succ n ih =>
      show (allN (qV2 c) (n + 1) && qV2 c (n + 1)) = ((allN (qV c) (n + 1) && qV c (n + 1)) && firstB c)
      rw [ih]
      have : qV2 c (n + 1) = qV c (n + 1) := by simp [qV2]
      rw [this]
      cases allN (qV c) (n + 1) <;> cases qV c (n + 1) <;> cases firstB c <;> rfl
  obtain ⟨n, hn⟩ : ∃ n, c.vers.length = n + 1 := ⟨c.vers.length - 1, by omega⟩
  unfold versB
  rw [hn]; exact key n
theorem FV_versions (c : Conf) (hc : Lens c) (h : c.vers.length ≠ 0) : FV PP shF 65 [.agg (eK c)] = some (dB (versB c)) := by
  rw [← versB_eq c h]
  refine FV_ok (F_ok PP65 rfl ⟨by simp [ir65], by simp⟩ ?_)
  simp -implicitDefEqProofs only [go_sem, ir65, eK]
  refine (vers_l0 c hc 0 _ ⟨?_, ?_, ?_, by omega, rfl⟩).mono ?_ <;> (try simp -implicitDefEqProofs only [go_sem, eK])
  rintro e ⟨E, H⟩ (⟨rfl, hb⟩ | ⟨rfl, hb, e4⟩)
  · simp -implicitDefEqProofs only [go_sem, hb]
  · simp only at e4
    simp -implicitDefEqProofs only [go_sem, hb, e4]
def evenB (c : Conf) : Bool := (c.reps.length : Int).tmod 2 == 0
def restB (c : Conf) : Bool := inB c.blast 1 16 && inB c.lease 1 1000 && inB c.bake 0 10000
def okB4 (c : Conf) : Bool := !evenB c && placedB c && versB c && restB c
def validN (c : Conf) : Int := if limB c = true then (if okB4 c = true then 0 else 1) else 2
theorem limB_facts {c : Conf} (h : limB c = true) : (1 ≤ c.regions ∧ c.regions ≤ 4) ∧ c.vers.length ≠ 0 := by
  unfold limB inB at h
  simp only [Bool.and_eq_true, decide_eq_true_eq] at h
  obtain ⟨⟨⟨⟨⟨⟨h1, _⟩, _⟩, h4⟩, _⟩, _⟩, _⟩ := h
  exact ⟨h1, by omega⟩
theorem FV_Valid (c : Conf) (hc : Lens c) : FV PP shF 30 [.agg (eK c)] = some (dI (validN c)) := by
  refine FV_ok (F_ok PP30 rfl ⟨by simp [ir30], by simp⟩ ?_)
  have B1 := FV_sized c
  have T1 := FV_tb c.blast 1 16
  have T2 := FV_tb c.lease 1 1000
  have T3 := FV_tb c.bake 0 10000
  unfold validN
  cases hl : limB c with
  | false =>
    rw [hl] at B1
    simp -implicitDefEqProofs only [go_sem, ir30, eK, vpS B1 rfl]
  | true =>
    rw [hl] at B1
    have B2 := FV_placed c hc (limB_facts hl).1
    have B3 := FV_versions c hc (limB_facts hl).2
    unfold okB4 restB
    have he : ((c.reps.length : Int).tmod 2 == 0) = evenB c := rfl
    generalize evenB c = ev at *
    generalize placedB c = pl at *
    generalize versB c = ve at *
    generalize inB c.blast 1 16 = r1 at *
    generalize inB c.lease 1 1000 = r2 at *
    generalize inB c.bake 0 10000 = r3 at *
    cases ev
    · cases pl
      · simp -implicitDefEqProofs only [go_sem, ir30, eK, vpS B1 rfl, he, vpS B2 rfl]
      · cases ve
        · simp -implicitDefEqProofs only [go_sem, ir30, eK, vpS B1 rfl, he, vpS B2 rfl, vpS B3 rfl]
        · cases r1
          · simp -implicitDefEqProofs only [go_sem, ir30, eK, vpS B1 rfl, he, vpS B2 rfl, vpS B3 rfl, vpS T1 rfl]
          · cases r2
            · simp -implicitDefEqProofs only [go_sem, ir30, eK, vpS B1 rfl, he, vpS B2 rfl, vpS B3 rfl, vpS T1 rfl, vpS T2 rfl]
            · cases r3
              · simp -implicitDefEqProofs only [go_sem, ir30, eK, vpS B1 rfl, he, vpS B2 rfl, vpS B3 rfl, vpS T1 rfl, vpS T2 rfl, vpS T3 rfl]
              · simp -implicitDefEqProofs only [go_sem, ir30, eK, vpS B1 rfl, he, vpS B2 rfl, vpS B3 rfl, vpS T1 rfl, vpS T2 rfl, vpS T3 rfl]
    · simp -implicitDefEqProofs only [go_sem, ir30, eK, vpS B1 rfl, he]
def rightB (W : Int) (t : Ten) : Bool := inB t.load 1 65536 && inB t.shadow 0 t.load && inB t.prio 0 9 && inB t.lag (-1) 1000 && (decide (1 ≤ t.allowed) && decide (t.allowed < W)) && inB t.group 0 32
def wid (c : Conf) : Int := 2 ^ c.regions.toNat
theorem wid_eq {R : Int} (h : 1 ≤ R ∧ R ≤ 4) : IntKind.wrap .i64 (1 * 2 ^ min R.toNat 64) = 2 ^ R.toNat ∧ (2 : Int) ^ R.toNat ≤ 16 ∧ (2 : Int) ≤ 2 ^ R.toNat := by
  obtain ⟨h1, h2⟩ := h
  obtain rfl | rfl | rfl | rfl : R = 1 ∨ R = 2 ∨ R = 3 ∨ R = 4 := by omega
  all_goals exact ⟨rfl, by decide, by decide⟩
theorem FV_right (c : Conf) (hr : 1 ≤ c.regions ∧ c.regions ≤ 4) (t : Ten) : FV PP shF 114 [.agg (eK c), .agg (eT t)] = some (dB (rightB (wid c) t)) := by
  obtain ⟨hs, hw1, hw2⟩ := wid_eq hr
  have nr : ¬ c.regions < 0 := by omega
  have w1 : IntKind.wrap .i64 (wid c - 1) = wid c - 1 := by unfold wid; exact w64 (by omega) (by omega)
  rw [show (2 : Int) ^ c.regions.toNat = wid c from rfl] at hs hw1 hw2
  have B1 := FV_between t.load 1 65536
  have B2 := FV_between t.shadow 0 t.load
  have B3 := FV_between t.prio 0 9
  have B4 := FV_between t.lag (-1) 1000
  have B5 := FV_between t.allowed 1 (wid c - 1)
  have B6 := FV_between t.group 0 32
  have h5 : (decide (1 ≤ t.allowed) && decide (t.allowed ≤ wid c - 1)) = (decide (1 ≤ t.allowed) && decide (t.allowed < wid c)) := by
    congr 1
    rw [Bool.eq_iff_iff]
    simp only [decide_eq_true_eq]
    omega
  rw [h5] at B5
  refine FV_ok (F_ok PP114 rfl ⟨by simp [ir114], by simp⟩ ?_)
  unfold rightB inB
  generalize (decide (1 ≤ t.load) && decide (t.load ≤ 65536)) = r1 at *
  generalize (decide (0 ≤ t.shadow) && decide (t.shadow ≤ t.load)) = r2 at *
  generalize (decide (0 ≤ t.prio) && decide (t.prio ≤ 9)) = r3 at *
  generalize (decide (-1 ≤ t.lag) && decide (t.lag ≤ 1000)) = r4 at *
  generalize (decide (1 ≤ t.allowed) && decide (t.allowed < wid c)) = r5 at *
  generalize (decide (0 ≤ t.group) && decide (t.group ≤ 32)) = r6 at *
  cases r1
  · simp -implicitDefEqProofs only [go_sem, ir114, eK, nr, hs, w1, vpS B1 rfl]
  cases r2
  · simp -implicitDefEqProofs only [go_sem, ir114, eK, nr, hs, w1, vpS B1 rfl, vpS B2 rfl]
  cases r3
  · simp -implicitDefEqProofs only [go_sem, ir114, eK, nr, hs, w1, vpS B1 rfl, vpS B2 rfl, vpS B3 rfl]
  cases r4
  · simp -implicitDefEqProofs only [go_sem, ir114, eK, nr, hs, w1, vpS B1 rfl, vpS B2 rfl, vpS B3 rfl, vpS B4 rfl]
  cases r5
  · simp -implicitDefEqProofs only [go_sem, ir114, eK, nr, hs, w1, vpS B1 rfl, vpS B2 rfl, vpS B3 rfl, vpS B4 rfl, vpS B5 rfl]
  cases r6
  · simp -implicitDefEqProofs only [go_sem, ir114, eK, nr, hs, w1, vpS B1 rfl, vpS B2 rfl, vpS B3 rfl, vpS B4 rfl, vpS B5 rfl, vpS B6 rfl]
  simp -implicitDefEqProofs only [go_sem, ir114, eK, nr, hs, w1, vpS B1 rfl, vpS B2 rfl, vpS B3 rfl, vpS B4 rfl, vpS B5 rfl, vpS B6 rfl]
def qT (c : Conf) (i : Nat) : Bool := rightB (wid c) (c.tens.getD i ⟨0, 0, 0, 0, 0, 0, false⟩)
def validT (c : Conf) : Int := if validN c = 0 then (if allN (qT c) c.tens.length = true then 0 else 1) else validN c
theorem validN_lim {c : Conf} (h : validN c = 0) : limB c = true := by
  unfold validN at h
  cases hl : limB c with
  | true => rfl
  | false => rw [hl] at h; simp at h
def L103 (c : Conf) (k : Nat) (w : VSt) : Prop := gt .bad w.E 1 = .mp 1 1 0 0 ∧ hg w.H 1 = ⟨1, 0, true, [eK c]⟩ ∧ gt .bad w.E 12 = .sl (c.tens.map eT) ∧ gt .bad w.E 13 = dI (c.tens.length : Nat) ∧ gt .bad w.E 14 = dI (k : Nat) ∧ k ≤ c.tens.length ∧ allN (qT c) k = true
theorem tvalid_l0 (c : Conf) (hc : Lens c) (hr : 1 ≤ c.regions ∧ c.regions ≤ 4) : ∀ k w, L103 c k w → Ok (R PP shF 0 23 (.loop ir103_l0) w) (fun e w => (e = .exit 0 ∧ allN (qT c) c.tens.length = true) ∨ (e = .ret ∧ allN (qT c) c.tens.length = false ∧ gt .bad w.E 2 = dI 1)) := by
  refine Ok_up c.tens.length (L103 c) fun k w hI => ?_
  obtain ⟨E, H⟩ := w
  obtain ⟨e1, h1, e12, e13, e14, hk, ha⟩ := hI
  simp only at e1 h1 e12 e13 e14
  have ht := hc.t
  have w1 : IntKind.wrap .i64 ((k : Int) + 1) = ((k + 1 : Nat) : Int) := by rw [w64 (by omega) (by omega)]; rfl
  by_cases hlt : k < c.tens.length
  · have d1 : decide ((k : Int) < (c.tens.length : Int)) = true := by simp; omega
    have q1 : (k : Int) < (c.tens.length : Int) := by omega
    have q0 : (0 : Int) ≤ (k : Int) := by omega
    have g1 := getD_at (l := c.tens) (i := k) (d := ⟨0, 0, 0, 0, 0, 0, false⟩) hlt
    have B := FV_right c hr (c.tens.getD k ⟨0, 0, 0, 0, 0, 0, false⟩)
    rw [show rightB (wid c) (c.tens.getD k ⟨0, 0, 0, 0, 0, 0, false⟩) = qT c k from rfl] at B
    cases hb : qT c k with
    | true =>
      rw [hb] at B
      simp -implicitDefEqProofs only [go_sem, ir103_l0, eK, eT, e1, h1, e12, e13, e14, d1, q0, q1, g1, w1, vpS B rfl]
      refine .next hlt ⟨?_, ?_, ?_, ?_, ?_, by omega, allN_next ha hb⟩ <;> simp -implicitDefEqProofs only [go_sem, e1, h1, e12, e13, w1, eK]
    | false =>
      rw [hb] at B
      simp -implicitDefEqProofs only [go_sem, ir103_l0, eK, eT, e1, h1, e12, e13, e14, d1, q0, q1, g1, w1, vpS B rfl]
      refine .ret (.inr ⟨rfl, allN_false hb _ hlt, ?_⟩)
      simp -implicitDefEqProofs only [go_sem, ]
  · have : k = c.tens.length := by omega
    subst this
    have d1 : decide ((c.tens.length : Int) < (c.tens.length : Int)) = false := by simp
    simp -implicitDefEqProofs only [go_sem, ir103_l0, eK, e13, e14, d1]
    exact .exit (.inl ⟨rfl, ha⟩)
theorem FV_tValid (c : Conf) (hc : Lens c) : FV PP shF 103 [.agg (eK c)] = some (dI (validT c)) := by
  have V := FV_Valid c hc
  refine FV_ok (F_ok PP103 rfl ⟨by simp [ir103], by simp⟩ ?_)
  unfold validT
  by_cases h0 : validN c = 0
  · obtain ⟨hr, _⟩ := limB_facts (validN_lim h0)
    rw [h0] at V
    have n0 : ((0 : Int) != 0) = false := rfl
    simp -implicitDefEqProofs only [go_sem, ir103, eK, vpS V rfl, h0, n0]
    refine (tvalid_l0 c hc hr 0 _ ⟨?_, ?_, ?_, ?_, ?_, by omega, rfl⟩).mono ?_ <;> (try simp -implicitDefEqProofs only [go_sem, eK])
    rintro e ⟨E, H⟩ (⟨rfl, hb⟩ | ⟨rfl, hb, e2⟩)
    · simp -implicitDefEqProofs only [go_sem, hb]
    · simp only at e2
      simp -implicitDefEqProofs only [go_sem, hb, e2]
  · have d1 : (validN c != 0) = true := by simp [h0]
    simp -implicitDefEqProofs only [go_sem, ir103, eK, vpS V rfl, d1, h0]
def inC (c : Conf) (n : Int) : Bool := decide (0 ≤ n) && decide (n < c.cells.length)
def plcB (c : Conf) (x : Plc) : Bool := ((x.home == -1) || inC c x.home) && ((x.sby == -1) || inC c x.sby)
def fitB (c : Conf) (ps : List Plc) : Bool := (validT c == 0) && ((ps.length : Int) == (c.tens.length : Int)) && ps.all (plcB c)
def L90 (p : Prob) (ps : List Plc) (i : Nat) (w : VSt) : Prop := gt .bad w.E 2 = .mp 2 1 0 0 ∧ hg w.H 2 = ⟨1, 0, true, [eQ p]⟩ ∧ gt .bad w.E 20 = .sl (ps.map eP) ∧ gt .bad w.E 21 = dI (ps.length : Nat) ∧ gt .bad w.E 22 = dI (i : Nat) ∧ i ≤ ps.length ∧ ∀ j, j < i → plcB p.conf (plc ps j) = true
theorem fit_l0 (p : Prob) (ps : List Plc) (hps : ps.length ≤ 1000) : ∀ i w, L90 p ps i w → Ok (R PP shF 0 49 (.loop ir90_l0) w) (fun e w => (e = .exit 0 ∧ ∀ j, j < ps.length → plcB p.conf (plc ps j) = true) ∨ (e = .ret ∧ gt .bad w.E 4 = dB false ∧ ∃ j, j < ps.length ∧ plcB p.conf (plc ps j) = false)) := by
  refine Ok_up ps.length _ fun i w hI => ?_
  obtain ⟨E, H⟩ := w
  obtain ⟨e2, h2, e20, e21, e22, hk, hall⟩ := hI
  simp only at e2 h2 e20 e21 e22
  have w1 : IntKind.wrap .i64 ((i : Int) + 1) = ((i + 1 : Nat) : Int) := by rw [w64 (by omega) (by omega)]; rfl
  by_cases hlt : i < ps.length
  · have d1 : decide ((i : Int) < (ps.length : Int)) = true := decide_eq_true (by omega)
    have q0 : (0 : Int) ≤ (i : Int) := by omega
    have q1 : (i : Int) < (ps.length : Int) := by omega
    have g1 : ps[i]? = some (plc ps i) := getD_at hlt
    have C1 := FV_cell p (plc ps i).home
    have C2 := FV_cell p (plc ps i).sby
    have nx : plcB p.conf (plc ps i) = true → ∀ j, j < i + 1 → plcB p.conf (plc ps j) = true := fun h j hj => by
      by_cases hji : j = i
      · rw [hji]; exact h
      · exact hall j (by omega)
    have hp : plcB p.conf (plc ps i) = ((((plc ps i).home == -1) || (decide (0 ≤ (plc ps i).home) && decide ((plc ps i).home < p.conf.cells.length))) && (((plc ps i).sby == -1) || (decide (0 ≤ (plc ps i).sby) && decide ((plc ps i).sby < p.conf.cells.length)))) := rfl
    generalize hb : plcB p.conf (plc ps i) = pb at *
    cases a1 : ((plc ps i).home == -1) with
    | true =>
      have a1' : ((plc ps i).home != -1) = false := by unfold bne; rw [a1]; rfl
      cases b1 : ((plc ps i).sby == -1) with
      | true =>
        have b1' : ((plc ps i).sby != -1) = false := by unfold bne; rw [b1]; rfl
        simp -implicitDefEqProofs only [go_sem, ir90_l0, eQ, e2, h2, e20, e21, e22, d1, q0, q1, g1, w1, a1', b1']
        refine .next hlt ⟨?_, ?_, ?_, ?_, ?_, by omega, nx (by rw [hp, a1, b1]; rfl)⟩ <;> simp -implicitDefEqProofs only [go_sem, eQ, e2, h2, e20, e21, w1]
      | false =>
        have b1' : ((plc ps i).sby != -1) = true := by unfold bne; rw [b1]; rfl
        cases b2 : (decide (0 ≤ (plc ps i).sby) && decide ((plc ps i).sby < (p.conf.cells.length : Int))) with
        | true =>
          rw [b2] at C2
          simp -implicitDefEqProofs only [go_sem, ir90_l0, eQ, e2, h2, e20, e21, e22, d1, q0, q1, g1, w1, a1', b1', vpS C2 rfl]
          refine .next hlt ⟨?_, ?_, ?_, ?_, ?_, by omega, nx (by rw [hp, a1, b1, b2]; rfl)⟩ <;> simp -implicitDefEqProofs only [go_sem, eQ, e2, h2, e20, e21, w1]
        | false =>
          rw [b2] at C2
          simp -implicitDefEqProofs only [go_sem, ir90_l0, eQ, e2, h2, e20, e21, e22, d1, q0, q1, g1, w1, a1', b1', vpS C2 rfl]
          exact .ret (.inr ⟨rfl, by simp -implicitDefEqProofs only [go_sem, ], i, hlt, by rw [hb, hp, a1, b1, b2]; rfl⟩)
    | false =>
      have a1' : ((plc ps i).home != -1) = true := by unfold bne; rw [a1]; rfl
      cases a2 : (decide (0 ≤ (plc ps i).home) && decide ((plc ps i).home < (p.conf.cells.length : Int))) with
      | false =>
        rw [a2] at C1
        simp -implicitDefEqProofs only [go_sem, ir90_l0, eQ, e2, h2, e20, e21, e22, d1, q0, q1, g1, w1, a1', vpS C1 rfl]
        exact .ret (.inr ⟨rfl, by simp -implicitDefEqProofs only [go_sem, ], i, hlt, by rw [hb, hp, a1, a2]; rfl⟩)
      | true =>
        rw [a2] at C1
        cases b1 : ((plc ps i).sby == -1) with
        | true =>
          have b1' : ((plc ps i).sby != -1) = false := by unfold bne; rw [b1]; rfl
          simp -implicitDefEqProofs only [go_sem, ir90_l0, eQ, e2, h2, e20, e21, e22, d1, q0, q1, g1, w1, a1', b1', vpS C1 rfl]
          refine .next hlt ⟨?_, ?_, ?_, ?_, ?_, by omega, nx (by rw [hp, a1, a2, b1]; rfl)⟩ <;> simp -implicitDefEqProofs only [go_sem, eQ, e2, h2, e20, e21, w1]
        | false =>
          have b1' : ((plc ps i).sby != -1) = true := by unfold bne; rw [b1]; rfl
          cases b2 : (decide (0 ≤ (plc ps i).sby) && decide ((plc ps i).sby < (p.conf.cells.length : Int))) with
          | true =>
            rw [b2] at C2
            simp -implicitDefEqProofs only [go_sem, ir90_l0, eQ, e2, h2, e20, e21, e22, d1, q0, q1, g1, w1, a1', b1', vpS C1 rfl, vpS C2 rfl]
            refine .next hlt ⟨?_, ?_, ?_, ?_, ?_, by omega, nx (by rw [hp, a1, a2, b1, b2]; rfl)⟩ <;> simp -implicitDefEqProofs only [go_sem, eQ, e2, h2, e20, e21, w1]
          | false =>
            rw [b2] at C2
            simp -implicitDefEqProofs only [go_sem, ir90_l0, eQ, e2, h2, e20, e21, e22, d1, q0, q1, g1, w1, a1', b1', vpS C1 rfl, vpS C2 rfl]
            exact .ret (.inr ⟨rfl, by simp -implicitDefEqProofs only [go_sem, ], i, hlt, by rw [hb, hp, a1, a2, b1, b2]; rfl⟩)
  · have hkl : i = ps.length := by omega
    have d1 : decide ((i : Int) < (ps.length : Int)) = false := decide_eq_false (by omega)
    simp -implicitDefEqProofs only [go_sem, ir90_l0, e21, e22, d1]
    subst hkl
    exact .exit (.inl ⟨rfl, hall⟩)
theorem all_plc {c : Conf} {ps : List Plc} : (ps.all (plcB c) = true ↔ ∀ j, j < ps.length → plcB c (plc ps j) = true) := by
  rw [List.all_eq_true]
  constructor
  · intro h j hj; exact h _ (List.mem_of_getElem? (getD_at (l := ps) (i := j) (d := ⟨0, 0⟩) hj))
  · intro h x hx
    obtain ⟨j, hj, rfl⟩ := List.mem_iff_getElem.1 hx
    have := h j hj
    unfold plc at this
    rwa [List.getD_eq_getElem?_getD, List.getElem?_eq_getElem hj] at this
theorem FV_Fit (p : Prob) (hc : Lens p.conf) (ps : List Plc) (hps : ps.length ≤ 1000) : FV PP shF 90 [.agg (eQ p), .sl (ps.map eP)] = some (dB (fitB p.conf ps)) := by
  refine FV_ok (F_ok PP90 rfl ⟨by simp [ir90], by simp⟩ ?_)
  have V := FV_tValid p.conf hc
  unfold fitB
  cases v : (validT p.conf == 0) with
  | false =>
    have v' : (validT p.conf != 0) = true := by unfold bne; rw [v]; rfl
    simp -implicitDefEqProofs only [go_sem, ir90, eQ, eK, vpS V rfl, v']
  | true =>
    have v' : (validT p.conf != 0) = false := by unfold bne; rw [v]; rfl
    cases l : ((ps.length : Int) == (p.conf.tens.length : Int)) with
    | false =>
      have l' : ((ps.length : Int) != (p.conf.tens.length : Int)) = true := by unfold bne; rw [l]; rfl
      simp -implicitDefEqProofs only [go_sem, ir90, eQ, eK, vpS V rfl, v', l']
    | true =>
      have l' : ((ps.length : Int) != (p.conf.tens.length : Int)) = false := by unfold bne; rw [l]; rfl
      simp -implicitDefEqProofs only [go_sem, ir90, eQ, eK, vpS V rfl, v', l']
      refine (fit_l0 p ps hps 0 _ ⟨?_, ?_, ?_, ?_, ?_, by omega, fun j hj => by omega⟩).mono ?_ <;> (try simp -implicitDefEqProofs only [go_sem, eQ])
      rintro e ⟨E, H⟩ (⟨rfl, h⟩ | ⟨rfl, e4, j, hj, h⟩)
      · rw [all_plc.2 h]
        simp -implicitDefEqProofs only [go_sem, ]
      · have : ps.all (plcB p.conf) = false := by
          cases ha : ps.all (plcB p.conf) with
          | false => rfl
          | true => rw [all_plc.1 ha j hj] at h; simp at h
        rw [this]
        simp only at e4
        simp -implicitDefEqProofs only [go_sem, e4]
theorem FV_run (k : Nat) {g : Nat} (h : (vmach PP shF k g [] [] 0).map (·.1) = some (dB true)) : FV PP shF g [] = some (dB true) := by
  simp only [Option.map_eq_some_iff] at h
  obtain ⟨⟨d, H⟩, h1, h2⟩ := h
  simp only at h2; subst h2
  exact FV_B (F_of k h1)
theorem allN_true {q : Nat → Bool} : ∀ n : Nat, (∀ i, i < n → q i = true) → allN q n = true
  | 0, _ => rfl
  | n + 1, h => by simp only [allN, allN_true n (fun i hi => h i (by omega)), h n (by omega), Bool.and_self]
theorem inB_true {n lo hi : Int} (h : lo ≤ n ∧ n ≤ hi) : inB n lo hi = true := by unfold inB; rw [decide_eq_true h.1, decide_eq_true h.2]; rfl
theorem ConfOk.valid {c : Conf} (hc : ConfOk c) : validN c = 0 := by
  have r0 := hc.r0
  have r1 := hc.r1
  have z0 := hc.z0
  have z1 := hc.z1
  have c0 := hc.c0
  have c1 := hc.c1
  have t1 := hc.t1
  have v1 := hc.v1
  have v0 := List.length_pos_iff.2 hc.v0
  have o0 := hc.o0
  have o1 := hc.o1
  have hl : limB c = true := by
    unfold limB
    rw [inB_true ⟨by omega, by omega⟩, inB_true ⟨by omega, by omega⟩, inB_true ⟨by omega, by omega⟩, inB_true ⟨by omega, by omega⟩, inB_true (n := (c.reps.length : Int)) ⟨by rcases hc.ps with h | h <;> omega, by rcases hc.ps with h | h <;> omega⟩, inB_true ⟨by omega, by omega⟩, decide_eq_true (by omega)]
    rfl
  have he : evenB c = false := by
    unfold evenB
    rcases hc.ps with h | h <;> rw [h] <;> rfl
  have hz : ∀ l : List Int, (∀ z, z ∈ l → 0 ≤ z ∧ z < (c.zones.length : Int)) → zonesB c l = true := fun l h => allN_true _ fun i hi => by
    have g := getD_at (l := l) (i := i) (d := 0) hi
    have := h _ (List.mem_of_getElem? g)
    exact inB_true ⟨by omega, by omega⟩
  have hp : placedB c = true := by
    unfold placedB
    rw [hz _ hc.pz, hz _ hc.oz, allN_true _ (fun i hi => ?_), allN_true _ (fun i hi => ?_)]
    · rfl
    · have g := getD_at (l := c.cells) (i := i) (d := ⟨0, 0⟩) hi
      have := hc.cs _ (List.mem_of_getElem? g)
      unfold qC
      rw [inB_true ⟨by omega, by omega⟩, inB_true ⟨by omega, by omega⟩]; rfl
    · have g := getD_at (l := c.zones) (i := i) (d := 0) hi
      have := hc.zs _ (List.mem_of_getElem? g)
      exact inB_true ⟨by omega, by omega⟩
  have hv : versB c = true := by
    unfold versB
    have g0 := getD_at (l := c.vers) (i := 0) (d := ⟨0, 0⟩) v0
    have hf : firstB c = true := by
      unfold firstB
      rw [hc.vh (c.vers.getD 0 ⟨0, 0⟩) (by rw [← g0, List.head?_eq_getElem?])]
      rfl
    rw [hf, allN_true _ (fun i hi => ?_)]
    · rfl
    · have g := getD_at (l := c.vers) (i := i) (d := ⟨0, 0⟩) hi
      have := hc.vs _ (List.mem_of_getElem? g)
      unfold qV
      have x1 := this.l1
      have x2 := this.h1
      rw [decide_eq_true this.l0, decide_eq_true this.h0, decide_eq_true (by omega)]
      rfl
  have hr : restB c = true := by
    unfold restB
    have := hc.b0
    have := hc.b1
    have := hc.l0
    have := hc.l1
    have := hc.k0
    have := hc.k1
    rw [inB_true ⟨by omega, by omega⟩, inB_true ⟨by omega, by omega⟩, inB_true ⟨by omega, by omega⟩]; rfl
  unfold validN okB4
  rw [hl, he, hp, hv, hr]; rfl
theorem ConfOk.validT {c : Conf} (hc : ConfOk c) : Cp.validT c = 0 := by
  have r0 := hc.r0
  have r1 := hc.r1
  unfold Cp.validT
  rw [hc.valid, if_pos rfl, allN_true _ (fun i hi => ?_)]
  · rfl
  · have g := getD_at (l := c.tens) (i := i) (d := ⟨0, 0, 0, 0, 0, 0, false⟩) hi
    have h := hc.ts _ (List.mem_of_getElem? g)
    have a0 := h.l0
    have a1 := h.l1
    have a2 := h.s0
    have a3 := h.s1
    have a4 := h.p0
    have a5 := h.p1
    have a6 := h.g0
    have a7 := h.g1
    have a8 := h.a0
    have a9 := h.a1
    have b0 := h.u0
    have b1 := h.u1
    have hw : allR c.regions < wid c := by
      unfold wid
      obtain hh | hh | hh : c.regions = 1 ∨ c.regions = 2 ∨ c.regions = 3 := by omega
      all_goals (rw [hh]; decide)
    unfold qT rightB
    rw [inB_true ⟨by omega, by omega⟩, inB_true ⟨by omega, by omega⟩, inB_true ⟨by omega, by omega⟩, inB_true ⟨by omega, by omega⟩, inB_true ⟨by omega, by omega⟩, decide_eq_true (by omega), decide_eq_true (by omega)]
    rfl
theorem fit_iff {c : Conf} (hc : ConfOk c) (ps : List Plc) : fitB c ps = true ↔ FitP c ps := by
  unfold fitB FitP
  rw [hc.validT]
  simp only [beq_self_eq_true, Bool.true_and, Bool.and_eq_true, beq_iff_eq]
  constructor
  · rintro ⟨h1, h2⟩
    refine ⟨by omega, fun x hx => ?_⟩
    have := List.all_eq_true.1 h2 x hx
    unfold plcB inC at this
    simp at this
    exact ⟨by omega, by omega, by omega, by omega⟩
  · rintro ⟨h1, h2⟩
    refine ⟨by omega, List.all_eq_true.2 fun x hx => ?_⟩
    have := h2 x hx
    have a := this.h0; have b := this.h1; have d := this.s0; have e := this.s1
    unfold plcB inC
    simp
    omega
theorem FVF_Partial (p : Prob) (hc : ConfOk p.conf) (ps : List Plc) (hps : ps.length ≤ 1000) : FVF PP shF 93 [.agg (eQ p), .sl (ps.map eP)] (.sl ((if fitB p.conf ps = true then partL p ps else []).map eB)) := by
  refine FVF_ok (F_ok PP93 rfl ⟨by simp [ir93], by simp⟩ ?_)
  have K := FV_Fit p hc.lens ps hps
  cases hf : fitB p.conf ps with
  | false =>
    rw [hf] at K
    simp -implicitDefEqProofs only [go_sem, ir93, eQ, vpS K rfl]
    rfl
  | true =>
    rw [hf] at K
    have hfit := (fit_iff hc ps).1 hf
    have A : ∀ (H : VHeap) (b : Nat), hg H 13 = ⟨1, 0, true, [fdr p ps (.lit (.slice none 0 0))]⟩ → H.length ≤ b → 20 ≤ b → F PP shF 105 [.mp 13 1 0 0] H b = some (.tup [], FH 105 [.mp 13 1 0 0] H b) ∧ ∃ bo ov, hg (FH 105 [.mp 13 1 0 0] H b) 13 = ⟨1, 0, true, [fdr p ps ov]⟩ ∧ SlB (FH 105 [.mp 13 1 0 0] H b) bo 5 ((partL p ps).map eB) ov := by
      intro H b h1 h2 h3
      have := FH_eq (partial_ok p hc ps hfit [] (by simp) H b 13 1 0 (.lit (.slice none 0 0)) h2 h1 SlB.nil (by decide) (by omega) (by omega))
      obtain ⟨e1, bo, ov, c1, c2, _⟩ := this
      exact ⟨e1, bo, ov, c1, by simpa using c2⟩
    have A1 := fun H b h1 h2 h3 => (A H b h1 h2 h3).1
    simp -implicitDefEqProofs only [go_sem, ir93, eQ, vpS K rfl, A1]
    obtain ⟨_, bo, ov, c1, c2⟩ := A (hs (hs [] 2 ⟨1, 0, true, [eQ p]⟩) 13 ⟨1, 0, true, [fdr p ps (.lit (.slice none 0 0))]⟩) (max (max (max 0 3) 14) 20) (by simp -implicitDefEqProofs only [go_sem, ]) (by simp [hs_len]) (by decide)
    generalize FH 105 _ _ _ = H' at c1 c2 ⊢
    simp -implicitDefEqProofs only [go_sem, c1]
    exact ⟨c2.frz (by decide) (closed_eB _) 5, c2.fresh (by decide) (lits_eB _) 4⟩
theorem w0L : ∀ n : Nat, n ≤ 1000000 → IntKind.wrap .i64 ((n : Int) + 1) = ((n + 1 : Nat) : Int) := fun n h => by rw [w64 (by omega) (by omega)]; rfl
theorem getD_mem {α : Type} {l : List α} {i : Nat} {d : α} (h : i < l.length) : l.getD i d ∈ l := by
  rw [List.getD_eq_getElem?_getD, List.getElem?_eq_getElem h]; exact List.getElem_mem h
theorem addAt_get (l : List Int) (i x : Int) (j : Nat) : (addAt l i x).getD j 0 = if (j : Int) = i ∧ i < l.length then l.getD j 0 + x else l.getD j 0 := by
  unfold addAt
  by_cases h : 0 ≤ i ∧ i < l.length
  · rw [if_pos h]
    by_cases hj : (j : Int) = i
    · have e : i.toNat = j := by omega
      rw [if_pos ⟨hj, h.2⟩, e, List.getD_eq_getElem?_getD, List.getElem?_set_self (by omega)]; rfl
    · rw [if_neg (fun a => hj a.1), List.getD_eq_getElem?_getD, List.getElem?_set_ne (by omega), ← List.getD_eq_getElem?_getD]
  · rw [if_neg h, if_neg (by omega)]
/-- Some places are open. -/
def Opn (qs ps : List Plc) : Prop := qs.length = ps.length ∧ ∀ k : Nat, k < ps.length → plc qs k = plc ps k ∨ plc qs k = ⟨-1, -1⟩
theorem Opn.set {ps : List Plc} (i : Nat) : Opn (ps.set i ⟨-1, -1⟩) ps := by
  refine ⟨by simp, fun k hk => ?_⟩
  unfold plc
  by_cases h : i = k
  · subst h; right; rw [List.getD_eq_getElem?_getD, List.getElem?_set_self hk]; rfl
  · left; rw [List.getD_eq_getElem?_getD, List.getElem?_set_ne h, ← List.getD_eq_getElem?_getD]
def fil (a b : Plc) : Plc := ⟨if a.home < 0 then b.home else a.home, if a.sby < 0 then b.sby else a.sby⟩
theorem set_eP (L : List Plc) (k : Nat) (a b : Int) : (L.map eP).set k [dI a, dI b] = (L.set k ⟨a, b⟩).map eP := by rw [List.map_set]
/-- A placement that extends another. -/
def Xtd (A F : List Plc) : Prop := A.length = F.length ∧ ∀ k : Nat, k < F.length → ((plc A k).home = (plc F k).home ∨ (plc A k).home = -1) ∧ ((plc A k).sby = (plc F k).sby ∨ (plc A k).sby = -1)
theorem fin8 {n : Nat} {a : Int} (h0 : 0 ≤ a) (h1 : a < n) : ∃ x : Fin n, a = ((x.val : Nat) : Int) := ⟨⟨a.toNat, by omega⟩, by simp; omega⟩
theorem allR_lt {R : Int} (h : 0 ≤ R ∧ R ≤ 3) : 0 ≤ allR R ∧ allR R < 8 := by
  obtain rfl | rfl | rfl | rfl : R = 0 ∨ R = 1 ∨ R = 2 ∨ R = 3 := by omega
  all_goals decide
theorem orI_pow8 : ∀ a : Fin 8, ∀ R : Fin 4, ∀ r : Fin 3, ((a.val : Nat) : Int) ≤ allR ((R.val : Nat) : Int) → ((r.val : Nat) : Int) < ((R.val : Nat) : Int) → 0 ≤ orI .i64 ((a.val : Nat) : Int) (2 ^ (((r.val : Nat) : Int)).toNat) ∧ orI .i64 ((a.val : Nat) : Int) (2 ^ (((r.val : Nat) : Int)).toNat) ≤ allR ((R.val : Nat) : Int) := by decide +kernel
theorem orI_pow {a R r : Int} (hR : 0 ≤ R ∧ R ≤ 3) (ha : 0 ≤ a ∧ a ≤ allR R) (hr : 0 ≤ r ∧ r < R) : 0 ≤ orI .i64 a (2 ^ r.toNat) ∧ orI .i64 a (2 ^ r.toNat) ≤ allR R := by
  have := allR_lt hR
  obtain ⟨x, rfl⟩ := fin8 (n := 8) ha.1 (by omega)
  obtain ⟨y, rfl⟩ := fin8 (n := 4) hR.1 (by omega)
  obtain ⟨z, rfl⟩ := fin8 (n := 3) hr.1 (by omega)
  exact orI_pow8 x y z ha.2 hr.2
theorem reach_bd {p : Prob} (hc : ConfOk p.conf) (t : Int) : ∀ k : Nat, k ≤ p.conf.cells.length → 0 ≤ reach p t k ∧ reach p t k ≤ allR p.conf.regions
  | 0, _ => by
    have h0 := hc.r0
    have h1 := hc.r1
    have := allR_lt (R := p.conf.regions) ⟨by omega, h1⟩
    simp only [reach]; omega
  | k + 1, hk => by
    have h := reach_bd hc t k (by omega)
    have h0 := hc.r0
    simp only [reach]
    split
    · exact orI_pow ⟨by omega, hc.r1⟩ h (hc.regOf (by omega) (by omega))
    · exact h
theorem andNot_small (a : Nat) (ha : a < 8) (s : Int) : andNotI .i64 (a : Int) s = ((a &&& (7 - (s % 8).toNat) : Nat) : Int) := by
  have e1 : (BitVec.ofInt 64 (a : Int)).toNat = a := by rw [BitVec.toNat_ofInt]; omega
  have e2 : (BitVec.ofInt 64 (a : Int) &&& ~~~ (BitVec.ofInt 64 s)).toNat = a &&& (7 - (s % 8).toNat) := by
    rw [BitVec.toNat_and, e1, BitVec.toNat_not, BitVec.toNat_ofInt]
    have h1 : a &&& (2 ^ 64 - 1 - (s % ((2 ^ 64 : Nat) : Int)).toNat) ≤ a := Nat.and_le_left
    have h2 := @Nat.and_mod_two_pow a (2 ^ 64 - 1 - (s % ((2 ^ 64 : Nat) : Int)).toNat) 3
    rw [Nat.mod_eq_of_lt (show _ < 2 ^ 3 by omega)] at h2
    rw [h2, Nat.mod_eq_of_lt (show a < 2 ^ 3 by omega)]
    congr 1
    omega
  show IntKind.wrap .i64 (((BitVec.ofInt 64 (a : Int) &&& ~~~ (BitVec.ofInt 64 s)).toNat : Nat) : Int) = _
  rw [e2]
  have : a &&& (7 - (s % 8).toNat) ≤ a := Nat.and_le_left
  exact w64 (by omega) (by omega)
theorem andNot_mod (a : Nat) (ha : a < 8) (s : Int) : andNotI .i64 (a : Int) s = andNotI .i64 (a : Int) (s % 8) := by
  rw [andNot_small a ha, andNot_small a ha, Int.emod_emod_of_dvd s (by decide)]
theorem bit_mod8 (s : Int) {r : Nat} (hr : r < 3) : bit s (r : Nat) = bit (s % 8) (r : Nat) := by
  unfold bit
  obtain rfl | rfl | rfl : r = 0 ∨ r = 1 ∨ r = 2 := by omega
  all_goals (simp; try omega)
/-- Whether the first regions of a set lie in another. -/
def subN (a s : Int) : Nat → Bool
  | 0 => true
  | r + 1 => subN a s r && !(has a (r : Nat) && !has s (r : Nat))
theorem subN_mod (a s : Int) : ∀ r : Nat, r ≤ 3 → subN a s r = subN a (s % 8) r
  | 0, _ => rfl
  | r + 1, h => by
    simp only [subN, has]
    rw [subN_mod a s r (by omega), bit_mod8 s (show r < 3 by omega)]
theorem subN8 : ∀ a m : Fin 8, ∀ R : Fin 4, ((a.val : Nat) : Int) ≤ allR ((R.val : Nat) : Int) → subN ((a.val : Nat) : Int) ((m.val : Nat) : Int) R.val = (andNotI .i64 ((a.val : Nat) : Int) ((m.val : Nat) : Int) == 0) := by decide +kernel
theorem subN_eq {a s : Int} {R : Nat} (hR : R ≤ 3) (ha : 0 ≤ a ∧ a ≤ allR (R : Nat)) : subN a s R = (andNotI .i64 a s == 0) := by
  have := allR_lt (R := (R : Nat)) ⟨by omega, by omega⟩
  obtain ⟨x, rfl⟩ := fin8 (n := 8) ha.1 (by omega)
  obtain ⟨m, hm⟩ := fin8 (n := 8) (a := s % 8) (by omega) (by omega)
  rw [subN_mod _ _ _ hR, andNot_mod _ x.isLt, hm]
  exact subN8 x m ⟨R, by omega⟩ ha.2
def needB (p : Prob) (ps : List Plc) (s : Int) (k : Nat) : Bool := (plc ps k).home == -1 && andNotI .i64 (reach p (k : Nat) p.conf.cells.length) s == 0
def need (p : Prob) (ps : List Plc) (s : Int) : Nat → Int
  | 0 => 0
  | k + 1 => if needB p ps s k = true then need p ps s k + (ten p.conf (k : Nat)).load else need p ps s k
theorem need_bd {p : Prob} (hc : ConfOk p.conf) (ps : List Plc) (s : Int) : ∀ k : Nat, k ≤ p.conf.tens.length → 0 ≤ need p ps s k ∧ need p ps s k ≤ 12 * k
  | 0, _ => by simp [need]
  | k + 1, hk => by
    have h := need_bd hc ps s k (by omega)
    have ht := ten_ok hc (k := k) (by omega)
    have := ht.l0
    have := ht.l1
    simp only [need]
    split <;> omega
def L19 (p : Prob) (ps : List Plc) (s : Int) (k : Nat) (w : VSt) : Prop := gt .bad w.E 3 = .mp 3 1 0 0 ∧ hg w.H 3 = ⟨1, 0, true, [eQ p]⟩ ∧ gt .bad w.E 2 = dI s ∧ gt .bad w.E 7 = dI (need p ps s k) ∧
  gt .bad w.E 18 = .sl (ps.map eP) ∧ gt .bad w.E 19 = dI (ps.length : Nat) ∧ gt .bad w.E 20 = dI (k : Nat) ∧ k ≤ ps.length
theorem need_l0 (p : Prob) (hc : ConfOk p.conf) (ps : List Plc) (hp : ps.length = p.conf.tens.length) (s : Int) : ∀ k w, L19 p ps s k w → Ok (R PP shF 0 47 (.loop ir19_l0) w) (fun e w => e = .exit 0 ∧ gt .bad w.E 7 = dI (need p ps s ps.length)) := by
  refine Ok_up ps.length (L19 p ps s) fun k w hI => ?_
  obtain ⟨E, H⟩ := w
  obtain ⟨e3, h3, e2, e7, e18, e19, e20, hk⟩ := hI
  simp only at e3 h3 e2 e7 e18 e19 e20
  have ht5 := hc.t1
  have w1 : IntKind.wrap .i64 ((k : Int) + 1) = ((k + 1 : Nat) : Int) := by rw [w64 (by omega) (by omega)]; rfl
  by_cases hlt : k < ps.length
  · have d1 : decide ((k : Int) < (ps.length : Int)) = true := by simp; omega
    have q1 : (k : Int) < (ps.length : Int) := by omega
    have q0 : (0 : Int) ≤ (k : Int) := by omega
    have q2 : (k : Int) < (p.conf.tens.length : Int) := by omega
    have g1 : ps[k]? = some (plc ps k) := getD_at (l := ps) (i := k) (d := ⟨0, 0⟩) (by omega)
    have g2 := getD_at (l := p.conf.tens) (i := k) (d := ⟨0, 0, 0, 0, 0, 0, false⟩) (by omega)
    have ht1 : (p.conf.tens.getD k ⟨0, 0, 0, 0, 0, 0, false⟩).load = (ten p.conf k).load := rfl
    have B := FV_Reach p hc k
    cases hh : (plc ps k).home == -1 with
    | true =>
      cases ha : (andNotI .i64 (reach p (k : Nat) p.conf.cells.length) s == 0) with
      | true =>
        have hu : need p ps s (k + 1) = need p ps s k + (ten p.conf (k : Nat)).load := by simp only [need, needB, hh, ha]; rfl
        have bd := need_bd hc ps s (k + 1) (by omega)
        have w2 : IntKind.wrap .i64 (need p ps s k + (ten p.conf (k : Nat)).load) = need p ps s (k + 1) := by rw [← hu]; exact w64 (by omega) (by omega)
        simp -implicitDefEqProofs only [go_sem, ir19_l0, eQ, eK, e3, h3, e2, e7, e18, e19, e20, d1, w1, q0, q1, q2, g1, g2, hh, ha, vpS B rfl, ht1, w2]
        refine .next hlt ⟨?_, ?_, ?_, ?_, ?_, ?_, ?_, by omega⟩ <;> simp -implicitDefEqProofs only [go_sem, e3, h3, e2, e18, e19, w1, eQ]
      | false =>
        have hu : need p ps s (k + 1) = need p ps s k := by simp only [need, needB, hh, ha]; rfl
        simp -implicitDefEqProofs only [go_sem, ir19_l0, eQ, eK, e3, h3, e2, e7, e18, e19, e20, d1, w1, q0, q1, q2, g1, g2, hh, ha, vpS B rfl, ht1]
        refine .next hlt ⟨?_, ?_, ?_, ?_, ?_, ?_, ?_, by omega⟩ <;> simp -implicitDefEqProofs only [go_sem, e3, h3, e2, e7, e18, e19, w1, eQ, hu]
    | false =>
      have hu : need p ps s (k + 1) = need p ps s k := by simp only [need, needB, hh]; rfl
      simp -implicitDefEqProofs only [go_sem, ir19_l0, eQ, eK, e3, h3, e2, e7, e18, e19, e20, d1, w1, q0, q1, q2, g1, g2, hh, vpS B rfl, ht1]
      refine .next hlt ⟨?_, ?_, ?_, ?_, ?_, ?_, ?_, by omega⟩ <;> simp -implicitDefEqProofs only [go_sem, e3, h3, e2, e7, e18, e19, w1, eQ, hu]
  · have : k = ps.length := by omega
    subst this
    have d1 : decide ((ps.length : Int) < (ps.length : Int)) = false := by simp
    simp -implicitDefEqProofs only [go_sem, ir19_l0, e19, e20, d1]
    exact .exit ⟨rfl, by simp -implicitDefEqProofs only [go_sem, e7]⟩
theorem FV_Need (p : Prob) (hc : ConfOk p.conf) (ps : List Plc) (hp : ps.length = p.conf.tens.length) (s : Int) : FV PP shF 19 [.agg (eQ p), .sl (ps.map eP), dI s] = some (dI (need p ps s ps.length)) := by
  refine FV_ok (F_ok PP19 rfl ⟨by simp [ir19], by simp⟩ ?_)
  have hlt : ¬ (p.conf.tens.length : Int) < (ps.length : Int) := by omega
  have m2 : (0 : Int) ≤ (ps.length : Int) ∧ (ps.length : Int) ≤ (ps.length : Int) := by omega
  have m3 : (List.map eP ps).all (fun el => el.length == 2) = true := by simp [List.all_eq_true]
  have htk : List.take ps.length (ps.map eP) = ps.map eP := List.take_of_length_le (by simp)
  simp -implicitDefEqProofs only [go_sem, ir19, eQ, eK, hlt, m2, m3, htk]
  refine (need_l0 p hc ps hp s 0 _ ?_).mono ?_
  · refine ⟨?_, ?_, ?_, ?_, ?_, ?_, ?_, by omega⟩ <;> simp -implicitDefEqProofs only [go_sem, eQ, need]
  rintro e ⟨E, H⟩ ⟨rfl, e7⟩
  simp only at e7
  simp -implicitDefEqProofs only [go_sem, e7]
def roomB (p : Prob) (s : Int) (i : Nat) : Bool := bit p.cells (i : Nat) && has s (regOf p.conf (i : Nat))
def room (p : Prob) (bk : List Int) (s : Int) : Nat → Int
  | 0 => 0
  | k + 1 => if roomB p s k = true then room p bk s k + (capOf p.conf (k : Nat) - bk.getD k 0) else room p bk s k
theorem cap_bd {c : Conf} (hc : ConfOk c) {i : Nat} (hi : i < c.cells.length) : 10 ≤ capOf c (i : Nat) ∧ capOf c (i : Nat) ≤ 40 := by
  have h3 := getD_at (l := c.cells) (i := i) (d := ⟨0, 0⟩) hi
  have h4 := hc.cs _ (List.mem_of_getElem? h3)
  unfold capOf
  simp only [Int.toNat_natCast]
  omega
def BkOk (p : Prob) (bk : List Int) : Prop := bk.length = p.conf.cells.length ∧ ∀ j : Nat, 0 ≤ bk.getD j 0 ∧ bk.getD j 0 ≤ 120
theorem booked_ok {p : Prob} (hc : ConfOk p.conf) (ps : List Plc) {k : Nat} (hk : k ≤ p.conf.tens.length) : BkOk p (booked p.conf ps k) := ⟨booked_len _ _ _, fun j => by
  have := booked_bd hc ps k hk j
  have := hc.t1
  omega⟩
theorem room_bd {p : Prob} (hc : ConfOk p.conf) {bk : List Int} (hb : BkOk p bk) (s : Int) : ∀ k : Nat, k ≤ p.conf.cells.length → -120 * (k : Int) ≤ room p bk s k ∧ room p bk s k ≤ 40 * k
  | 0, _ => by simp [room]
  | k + 1, hk => by
    have h := room_bd hc hb s k (by omega)
    have h1 := cap_bd hc (i := k) (by omega)
    have h2 := hb.2 k
    simp only [room]
    split <;> omega
def L21 (p : Prob) (bk : List Int) (s : Int) (k : Nat) (w : VSt) : Prop := gt .bad w.E 3 = .mp 3 1 0 0 ∧ hg w.H 3 = ⟨1, 0, true, [eQ p]⟩ ∧ gt .bad w.E 2 = dI s ∧ gt .bad w.E 7 = dL bk ∧ gt .bad w.E 8 = dI (room p bk s k) ∧
  gt .bad w.E 17 = .sl (p.conf.cells.map eC) ∧ gt .bad w.E 18 = dI (p.conf.cells.length : Nat) ∧ gt .bad w.E 19 = dI (k : Nat) ∧ k ≤ p.conf.cells.length
theorem room_l0 (p : Prob) (hc : ConfOk p.conf) (bk : List Int) (hbk : BkOk p bk) (s : Int) : ∀ k w, L21 p bk s k w → Ok (R PP shF 0 57 (.loop ir21_l0) w) (fun e w => e = .exit 0 ∧ gt .bad w.E 8 = dI (room p bk s p.conf.cells.length)) := by
  refine Ok_up p.conf.cells.length (L21 p bk s) fun k w hI => ?_
  obtain ⟨E, H⟩ := w
  obtain ⟨e3, h3, e2, e7, e8, e17, e18, e19, hk⟩ := hI
  simp only at e3 h3 e2 e7 e8 e17 e18 e19
  have hn7 := hc.c1
  have w1 : IntKind.wrap .i64 ((k : Int) + 1) = ((k + 1 : Nat) : Int) := by rw [w64 (by omega) (by omega)]; rfl
  by_cases hlt : k < p.conf.cells.length
  · have d1 : decide ((k : Int) < (p.conf.cells.length : Int)) = true := by simp; omega
    have q1 : (k : Int) < (p.conf.cells.length : Int) := by omega
    have q0 : (0 : Int) ≤ (k : Int) := by omega
    have g1 := getD_at (l := p.conf.cells) (i := k) (d := ⟨0, 0⟩) (by omega)
    have ht1 : (p.conf.cells.getD k ⟨0, 0⟩).cap = capOf p.conf (k : Nat) := rfl
    have g2 := getD_at (l := bk) (i := k) (d := 0) (by rw [hbk.1]; omega)
    have bl := hbk.1
    have B1 := FV_RegionOf p.conf hc.lens k
    have B2 := FV_usable p k (by omega) (by omega)
    have hr := hc.regOf (i := (k : Int)) (by omega) (by omega)
    have hr1 := hc.r1
    have nr : ¬ regOf p.conf (k : Nat) < 0 := by omega
    have r4 : regOf p.conf (k : Nat) < 4 := by omega
    have sd := shr_div s (regOf p.conf (k : Nat)) hr.1 (by omega)
    have hh : has s (regOf p.conf (k : Nat)) = ((s / 2 ^ (regOf p.conf (k : Nat)).toNat) % 2 == 1) := by
      unfold has bit
      rw [show (decide (0 ≤ regOf p.conf (k : Nat)) && decide (regOf p.conf (k : Nat) < 62)) = true by simp; omega]
      rfl
    cases hb : bit p.cells (k : Nat) with
    | true =>
      rw [hb] at B2
      cases hm : has s (regOf p.conf (k : Nat)) with
      | true =>
        have hu : room p bk s (k + 1) = room p bk s k + (capOf p.conf (k : Nat) - bk.getD k 0) := by simp only [room, roomB, hb, hm]; rfl
        have b1 := room_bd hc hbk s (k + 1) (by omega)
        have b2 := cap_bd hc (i := k) hlt
        have b3 := hbk.2 k
        have w2 : IntKind.wrap .i64 (capOf p.conf (k : Nat) - bk.getD k 0) = capOf p.conf (k : Nat) - bk.getD k 0 := w64 (by omega) (by omega)
        have w3 : IntKind.wrap .i64 (room p bk s k + (capOf p.conf (k : Nat) - bk.getD k 0)) = room p bk s (k + 1) := by rw [← hu]; exact w64 (by omega) (by omega)
        rw [hm] at hh
        simp -implicitDefEqProofs only [go_sem, ir21_l0, eQ, eK, e3, h3, e2, e7, e8, e17, e18, e19, d1, w1, q0, q1, g1, g2, bl, vpS B1 rfl, vpS B2 rfl, hr.1, nr, r4, sd, and1, ← hh, ht1, w2, w3]
        refine .next hlt ⟨?_, ?_, ?_, ?_, ?_, ?_, ?_, ?_, by omega⟩ <;> simp -implicitDefEqProofs only [go_sem, e3, h3, e2, e7, e17, e18, w1, eQ]
      | false =>
        have hu : room p bk s (k + 1) = room p bk s k := by simp only [room, roomB, hb, hm]; rfl
        rw [hm] at hh
        simp -implicitDefEqProofs only [go_sem, ir21_l0, eQ, eK, e3, h3, e2, e7, e8, e17, e18, e19, d1, w1, q0, q1, g1, g2, bl, vpS B1 rfl, vpS B2 rfl, hr.1, nr, r4, sd, and1, ← hh, ht1]
        refine .next hlt ⟨?_, ?_, ?_, ?_, ?_, ?_, ?_, ?_, by omega⟩ <;> simp -implicitDefEqProofs only [go_sem, e3, h3, e2, e7, e8, e17, e18, w1, eQ, hu]
    | false =>
      rw [hb] at B2
      have hu : room p bk s (k + 1) = room p bk s k := by simp only [room, roomB, hb]; rfl
      simp -implicitDefEqProofs only [go_sem, ir21_l0, eQ, eK, e3, h3, e2, e7, e8, e17, e18, e19, d1, w1, q0, q1, g1, g2, bl, vpS B1 rfl, vpS B2 rfl, hr.1, nr, r4, sd, and1, ht1]
      refine .next hlt ⟨?_, ?_, ?_, ?_, ?_, ?_, ?_, ?_, by omega⟩ <;> simp -implicitDefEqProofs only [go_sem, e3, h3, e2, e7, e8, e17, e18, w1, eQ, hu]
  · have : k = p.conf.cells.length := by omega
    subst this
    have d1 : decide ((p.conf.cells.length : Int) < (p.conf.cells.length : Int)) = false := by simp
    simp -implicitDefEqProofs only [go_sem, ir21_l0, e18, e19, d1]
    exact .exit ⟨rfl, by simp -implicitDefEqProofs only [go_sem, e8]⟩
theorem FV_Room (p : Prob) (hc : ConfOk p.conf) (ps : List Plc) (hp : ps.length = p.conf.tens.length) (s : Int) : FV PP shF 21 [.agg (eQ p), .sl (ps.map eP), dI s] = some (dI (room p (booked p.conf ps ps.length) s p.conf.cells.length)) := by
  have ht := hc.t1
  have B := FVF_Booked p hc ps (by omega)
  rw [show min ps.length p.conf.tens.length = ps.length by omega] at B
  refine FV_ok (F_ok PP21 rfl ⟨by simp [ir21], by simp⟩ ?_)
  simp -implicitDefEqProofs only [go_sem, ir21, vpF B rfl]
  refine (room_l0 p hc _ (booked_ok hc ps (k := ps.length) (by omega)) s 0 _ ?_).mono ?_
  · refine ⟨?_, ?_, ?_, ?_, ?_, ?_, ?_, ?_, by omega⟩ <;> simp -implicitDefEqProofs only [go_sem, eQ, room]
  rintro e ⟨E, H⟩ ⟨rfl, e8⟩
  simp only at e8
  simp -implicitDefEqProofs only [go_sem, e8]
/-- The first number of which q holds. -/
def firstN (q : Nat → Bool) : Nat → Option Nat
  | 0 => none
  | n + 1 => match firstN q n with
    | some k => some k
    | none => if q n = true then some n else none
theorem firstN_mono {q : Nat → Bool} {n k : Nat} (h : firstN q n = some k) : ∀ m, n ≤ m → firstN q m = some k
  | 0, hm => by
    obtain rfl : n = 0 := by omega
    exact h
  | m + 1, hm => by
    by_cases he : n = m + 1
    · rw [← he]; exact h
    · simp only [firstN, firstN_mono h m (by omega)]
theorem firstN_hit {q : Nat → Bool} {k N : Nat} (h : firstN q k = none) (hk : q k = true) (hN : k < N) : firstN q N = some k :=
  firstN_mono (n := k + 1) (by simp only [firstN, h, hk, ↓reduceIte]) N hN
theorem firstN_next {q : Nat → Bool} {k : Nat} (h : firstN q k = none) (hk : q k = false) : firstN q (k + 1) = none := by
  simp only [firstN, h, hk, Bool.false_eq_true, ↓reduceIte]
def overB (p : Prob) (ps : List Plc) (s : Nat) : Bool := decide (1 ≤ s) && decide (room p (booked p.conf ps ps.length) (s : Nat) p.conf.cells.length < need p ps (s : Nat) ps.length)
def exc (p : Prob) (ps : List Plc) : Option Nat := firstN (overB p ps) (2 ^ p.conf.regions.toNat)
def excD : Option Nat → DV
  | some k => .tup [dI (k : Nat), dB true]
  | none => .tup [dI 0, dB false]
theorem pow_reg {R : Int} (h0 : 1 ≤ R) (h1 : R ≤ 3) : ∃ N : Nat, 2 ^ R.toNat = N ∧ N ≤ 8 ∧ 1 ≤ N ∧ IntKind.wrap .i64 (1 * 2 ^ min R.toNat 64) = ((N : Nat) : Int) := by
  obtain rfl | rfl | rfl : R = 1 ∨ R = 2 ∨ R = 3 := by omega
  · exact ⟨2, rfl, by omega, by omega, rfl⟩
  · exact ⟨4, rfl, by omega, by omega, rfl⟩
  · exact ⟨8, rfl, by omega, by omega, rfl⟩
def L23 (p : Prob) (ps : List Plc) (N : Nat) (k : Nat) (w : VSt) : Prop := gt .bad w.E 1 = .sl (ps.map eP) ∧ gt .bad w.E 2 = .mp 2 1 0 0 ∧ hg w.H 2 = ⟨1, 0, true, [eQ p]⟩ ∧ gt .bad w.E 6 = dI (k : Nat) ∧ 1 ≤ k ∧ k ≤ N ∧ firstN (overB p ps) k = none
def Q23 (p : Prob) (ps : List Plc) (e : Ex) (w : VSt) : Prop := (e = .exit 0 ∧ exc p ps = none) ∨ (e = .ret ∧ ∃ k, exc p ps = some k ∧ gt .bad w.E 4 = dI (k : Nat) ∧ gt .bad w.E 5 = dB true)
theorem exc_l0 (p : Prob) (hc : ConfOk p.conf) (ps : List Plc) (hp : ps.length = p.conf.tens.length) (N : Nat) (hN : 2 ^ p.conf.regions.toNat = N) (hN8 : N ≤ 8) (hsh : IntKind.wrap .i64 (1 * 2 ^ min p.conf.regions.toNat 64) = ((N : Nat) : Int)) : ∀ k w, L23 p ps N k w → Ok (R PP shF 0 27 (.loop ir23_l0) w) (Q23 p ps) := by
  refine Ok_up N (L23 p ps N) fun k w hI => ?_
  obtain ⟨E, H⟩ := w
  obtain ⟨e1, e2, h2, e6, h1, hk, hf⟩ := hI
  simp only at e1 e2 h2 e6
  have hr0 := hc.r0
  have hr1 := hc.r1
  have w1 : IntKind.wrap .i64 ((k : Int) + 1) = ((k + 1 : Nat) : Int) := by rw [w64 (by omega) (by omega)]; rfl
  have m1 : (if p.conf.regions < 0 then 0 else p.conf.regions) = p.conf.regions := if_neg (by omega)
  have m1' : (if 0 < p.conf.regions then p.conf.regions else 0) = p.conf.regions := if_pos (by omega)
  have m2 : (if 4 < p.conf.regions then 4 else p.conf.regions) = p.conf.regions := if_neg (by omega)
  have m2' : (if p.conf.regions < 4 then p.conf.regions else 4) = p.conf.regions := if_pos (by omega)
  have nr : ¬ p.conf.regions < 0 := by omega
  by_cases hlt : k < N
  · have d1 : decide ((k : Int) < (N : Int)) = true := by simp; omega
    have B1 := FV_Need p hc ps hp k
    have B2 := FV_Room p hc ps hp k
    cases ho : overB p ps k with
    | true =>
      have d2 : decide (room p (booked p.conf ps ps.length) (k : Nat) p.conf.cells.length < need p ps (k : Nat) ps.length) = true := by
        unfold overB at ho; simp only [Bool.and_eq_true] at ho; exact ho.2
      have hx : exc p ps = some k := by unfold exc; rw [hN]; exact firstN_hit hf ho hlt
      simp -implicitDefEqProofs only [go_sem, ir23_l0, eQ, eK, e1, e2, h2, e6, m1, m2, m1', m2', nr, hsh, d1, vpS B1 rfl, vpS B2 rfl, d2, w1]
      refine .ret (.inr ⟨rfl, k, hx, ?_, ?_⟩) <;> simp -implicitDefEqProofs only [go_sem, ]
    | false =>
      have d2 : decide (room p (booked p.conf ps ps.length) (k : Nat) p.conf.cells.length < need p ps (k : Nat) ps.length) = false := by
        unfold overB at ho
        have : decide (1 ≤ k) = true := by simpa using h1
        rw [this] at ho; simpa using ho
      simp -implicitDefEqProofs only [go_sem, ir23_l0, eQ, eK, e1, e2, h2, e6, m1, m2, m1', m2', nr, hsh, d1, vpS B1 rfl, vpS B2 rfl, d2, w1]
      refine .next hlt ⟨?_, ?_, ?_, ?_, by omega, by omega, firstN_next hf ho⟩ <;> simp -implicitDefEqProofs only [go_sem, e1, e2, h2, w1, eQ]
  · have : k = N := by omega
    subst this
    have d1 : decide ((k : Int) < (k : Int)) = false := by simp
    simp -implicitDefEqProofs only [go_sem, ir23_l0, eQ, eK, e1, e2, h2, e6, m1, m2, m1', m2', nr, hsh, d1]
    exact .exit (.inl ⟨rfl, by unfold exc; rw [hN]; exact hf⟩)
theorem firstN_one (p : Prob) (ps : List Plc) : firstN (overB p ps) 1 = none := by simp [firstN, overB]
theorem FV_Exceeded (p : Prob) (hc : ConfOk p.conf) (ps : List Plc) (hp : ps.length = p.conf.tens.length) : FV PP shF 23 [.agg (eQ p), .sl (ps.map eP)] = some (excD (exc p ps)) := by
  obtain ⟨N, hN, hN8, hN1, hsh⟩ := pow_reg hc.r0 hc.r1
  refine FV_ok (F_ok PP23 rfl ⟨by simp [ir23], by simp⟩ ?_)
  simp -implicitDefEqProofs only [go_sem, ir23]
  refine (exc_l0 p hc ps hp N hN hN8 hsh 1 _ ?_).mono ?_
  · refine ⟨?_, ?_, ?_, ?_, by omega, by omega, firstN_one p ps⟩ <;> simp -implicitDefEqProofs only [go_sem, eQ]
    rfl
  rintro e ⟨E, H⟩ (⟨rfl, hx⟩ | ⟨rfl, k, hx, e4, e5⟩)
  · simp -implicitDefEqProofs only [go_sem, hx, excD]
  · simp only at e4 e5
    simp -implicitDefEqProofs only [go_sem, hx, excD, e4, e5]
theorem FV_awake18 : FV PP shF 12 [] = some (dB true) := FV_run 60 (by kernel_rfl)
theorem bit_all8 : ∀ a b : Fin 8, ∀ r : Fin 3, bit (orI .i64 ((a.val : Nat) : Int) ((b.val : Nat) : Int)) ((r.val : Nat) : Int) = (bit ((a.val : Nat) : Int) ((r.val : Nat) : Int) || bit ((b.val : Nat) : Int) ((r.val : Nat) : Int)) := by decide +kernel
theorem fin_of {n : Nat} {a : Int} (h0 : 0 ≤ a) (h1 : a < n) : ∃ x : Fin n, a = ((x.val : Nat) : Int) := ⟨⟨a.toNat, by omega⟩, by simp; omega⟩
theorem bit_or {a b r : Int} (ha : 0 ≤ a ∧ a < 8) (hb : 0 ≤ b ∧ b < 8) (hr : 0 ≤ r ∧ r < 3) : bit (orI .i64 a b) r = (bit a r || bit b r) := by
  obtain ⟨x, rfl⟩ := fin_of (n := 8) ha.1 ha.2
  obtain ⟨y, rfl⟩ := fin_of (n := 8) hb.1 hb.2
  obtain ⟨z, rfl⟩ := fin_of (n := 3) hr.1 hr.2
  exact bit_all8 x y z
theorem has_or {a b r : Int} (ha : 0 ≤ a ∧ a < 8) (hb : 0 ≤ b ∧ b < 8) (hr : 0 ≤ r ∧ r < 3) (h : has a r = true) : has (orI .i64 a b) r = true := by
  unfold has at h ⊢
  simp only [Bool.and_eq_true] at h ⊢
  refine ⟨h.1, ?_⟩
  rw [bit_or ha hb hr, h.2]; rfl
def rsub (p : Prob) (s i x : Int) (k : Nat) : Int := if 0 ≤ i ∧ i < k ∧ roomB p s i.toNat = true then x else 0
theorem room_add (p : Prob) (bk : List Int) (s i x : Int) : ∀ k : Nat, k ≤ bk.length → room p (addAt bk i x) s k = room p bk s k - rsub p s i x k
  | 0, _ => by simp [room, rsub]; omega
  | k + 1, hk => by
    have ih := room_add p bk s i x k (by omega)
    have g := addAt_get bk i x k
    simp only [room]
    by_cases hi : (k : Int) = i
    · have e1 : rsub p s i x k = 0 := by unfold rsub; rw [if_neg (by omega)]
      have e2 : i.toNat = k := by omega
      rw [if_pos ⟨hi, by omega⟩] at g
      cases hr : roomB p s k with
      | true =>
        have e3 : rsub p s i x (k + 1) = x := by unfold rsub; rw [e2, if_pos ⟨by omega, by omega, hr⟩]
        rw [if_pos rfl, if_pos rfl, ih, g, e1, e3]; omega
      | false =>
        have e3 : rsub p s i x (k + 1) = 0 := by unfold rsub; rw [e2, hr, if_neg (by simp)]
        rw [if_neg (by simp), if_neg (by simp), ih, e1, e3]
    · rw [if_neg (fun h => hi h.1)] at g
      have e3 : rsub p s i x (k + 1) = rsub p s i x k := by
        unfold rsub
        by_cases h : 0 ≤ i ∧ i < (k : Int) ∧ roomB p s i.toNat = true
        · rw [if_pos h, if_pos ⟨h.1, by have := h.2.1; omega, h.2.2⟩]
        · rw [if_neg h, if_neg (fun a => h ⟨a.1, by have := a.2.1; omega, a.2.2⟩)]
      rw [e3, g, ih]
      split <;> omega
theorem rsub_nn (p : Prob) (s i : Int) {x : Int} (hx : 0 ≤ x) (k : Nat) : 0 ≤ rsub p s i x k := by unfold rsub; split <;> omega
theorem rsub_neg (p : Prob) (s x : Int) (k : Nat) : rsub p s (-1) x k = 0 := by unfold rsub; rw [if_neg (by omega)]
/-- A cell that a tenant may have lies in a region that it reaches. -/
theorem has_pow8 : ∀ a : Fin 8, ∀ r : Fin 3, has (orI .i64 ((a.val : Nat) : Int) (2 ^ (((r.val : Nat) : Int)).toNat)) ((r.val : Nat) : Int) = true := by decide +kernel
theorem pow_lt8 : ∀ r : Fin 3, (0 : Int) ≤ (2 : Int) ^ (((r.val : Nat) : Int)).toNat ∧ (2 : Int) ^ (((r.val : Nat) : Int)).toNat < 8 := by decide +kernel
theorem reach_has {p : Prob} (hc : ConfOk p.conf) (t : Int) {f : Nat} (hf : okB p t f = true) : ∀ k : Nat, k ≤ p.conf.cells.length → f < k → has (reach p t k) (regOf p.conf f) = true
  | 0, _, h => by omega
  | k + 1, hk, h => by
    have h0 := hc.r0
    have h1 := hc.r1
    have bd := reach_bd hc t k (by omega)
    have := allR_lt (R := p.conf.regions) ⟨by omega, h1⟩
    have rf := hc.regOf (i := (f : Nat)) (by omega) (by omega)
    have rk := hc.regOf (i := (k : Nat)) (by omega) (by omega)
    by_cases e : f = k
    · subst e
      simp only [reach]
      rw [if_pos hf]
      obtain ⟨x, hx⟩ := fin8 (n := 8) bd.1 (by omega)
      obtain ⟨z, hz⟩ := fin8 (n := 3) rf.1 (by omega)
      rw [hx, hz]
      exact has_pow8 x z
    · have ih := reach_has hc t hf k (by omega) (by omega)
      simp only [reach]
      split
      · obtain ⟨z, hz⟩ := fin8 (n := 3) rk.1 (by omega)
        have pz := pow_lt8 z
        rw [← hz] at pz
        exact has_or ⟨bd.1, by omega⟩ pz ⟨rf.1, by omega⟩ ih
      · exact ih
theorem subN_has {a s : Int} : ∀ m : Nat, subN a s m = true → ∀ r : Nat, r < m → has a (r : Nat) = true → has s (r : Nat) = true
  | 0, _, r, h, _ => by omega
  | m + 1, hs, r, h, ha => by
    simp only [subN, Bool.and_eq_true] at hs
    by_cases e : r = m
    · subst e
      have := hs.2
      rw [ha] at this
      simpa using this
    · exact subN_has m hs.1 r (by omega) ha
theorem need_room {p : Prob} (hc : ConfOk p.conf) {A : List Plc} {s : Int} {t f : Nat} (hf : f < p.conf.cells.length) (hok : okB p (t : Nat) f = true) (hn : needB p A s t = true) : roomB p s f = true := by
  unfold needB at hn
  simp only [Bool.and_eq_true] at hn
  have bd := reach_bd hc (t : Nat) p.conf.cells.length (Nat.le_refl _)
  have h0 := hc.r0
  have h1 := hc.r1
  have rf := hc.regOf (i := (f : Nat)) (by omega) (by omega)
  obtain ⟨R, hR⟩ : ∃ R : Nat, p.conf.regions = R := ⟨p.conf.regions.toNat, by omega⟩
  have hs := subN_eq (s := s) (R := R) (by omega) (by rw [← hR]; exact bd)
  rw [hn.2] at hs
  have hr := reach_has hc (t : Nat) hok p.conf.cells.length (Nat.le_refl _) hf
  obtain ⟨r, hr2⟩ : ∃ r : Nat, regOf p.conf f = r := ⟨(regOf p.conf f).toNat, by omega⟩
  rw [hr2] at hr
  have := subN_has R hs r (by omega) hr
  unfold roomB
  rw [hr2, this]
  unfold okB at hok
  simp only [Bool.and_eq_true] at hok
  rw [hok.1]; rfl
theorem room_need {p : Prob} (hc : ConfOk p.conf) {A G : List Plc} (ho : Xtd A G) (s : Int) (hG : ∀ k : Nat, k < G.length → 0 ≤ (plc G k).home ∧ (plc G k).home < p.conf.cells.length ∧ okB p (k : Nat) (plc G k).home = true) :
    ∀ k : Nat, k ≤ G.length → k ≤ p.conf.tens.length → room p (booked p.conf G k) s p.conf.cells.length + need p A s k ≤ room p (booked p.conf A k) s p.conf.cells.length
  | 0, _, _ => by simp [booked, need]
  | k + 1, h1, h2 => by
    have ih := room_need hc ho s hG k (by omega) (by omega)
    have ht := ten_ok hc (k := k) (by omega)
    have l0 := ht.l0
    have s0 := ht.s0
    have e := ho.2 k (by omega)
    have g := hG k (by omega)
    simp only [booked]
    rw [room_add _ _ _ _ _ _ (by rw [addAt_len, booked_len]; exact Nat.le_refl _), room_add _ _ _ _ _ _ (by rw [booked_len]; exact Nat.le_refl _), room_add _ _ _ _ _ _ (by rw [addAt_len, booked_len]; exact Nat.le_refl _), room_add _ _ _ _ _ _ (by rw [booked_len]; exact Nat.le_refl _)]
    have hs : rsub p s (plc A k).sby (ten p.conf (k : Nat)).shadow p.conf.cells.length ≤ rsub p s (plc G k).sby (ten p.conf (k : Nat)).shadow p.conf.cells.length := by
      rcases e.2 with h | h
      · rw [h]; exact Int.le_refl _
      · rw [h, rsub_neg]; exact rsub_nn _ _ _ s0 _
    simp only [need]
    cases hn : needB p A s k with
    | true =>
      obtain ⟨f, hf⟩ : ∃ f : Nat, (plc G k).home = f := ⟨(plc G k).home.toNat, by omega⟩
      rw [hf] at g
      have hr := need_room hc (by omega) g.2.2 hn
      have hA : (plc A k).home = -1 := by
        unfold needB at hn; simp only [Bool.and_eq_true, beq_iff_eq] at hn; exact hn.1
      have x1 : rsub p s (plc G k).home (ten p.conf (k : Nat)).load p.conf.cells.length = (ten p.conf (k : Nat)).load := by
        unfold rsub; rw [hf, if_pos ⟨by omega, by omega, hr⟩]
      rw [if_pos rfl, x1, hA, rsub_neg]; omega
    | false =>
      rw [if_neg (by simp)]
      rcases e.1 with h | h
      · rw [h]; omega
      · have := rsub_nn p s (plc G k).home (x := (ten p.conf (k : Nat)).load) (by omega) p.conf.cells.length
        rw [h, rsub_neg]; omega
theorem room_nn {p : Prob} {bk : List Int} (s : Int) : ∀ k : Nat, (∀ j : Nat, j < k → bk.getD j 0 ≤ capOf p.conf (j : Nat)) → 0 ≤ room p bk s k
  | 0, _ => by simp [room]
  | k + 1, h => by
    have ih := room_nn s k (fun j hj => h j (by omega))
    have := h k (by omega)
    simp only [room]
    split <;> omega
theorem oneL_mem {rule : Int} {h : Int → Int → Bool} {ps : List Plc} : ∀ n i, i < n → (plc ps i).home ≠ -1 → h (i : Nat) (plc ps i).home = false → ∃ x ∈ oneL rule h ps n, x.rule = rule
  | 0, i, hi, _, _ => by omega
  | n + 1, i, hi, h1, h2 => by
    simp only [oneL, List.mem_append]
    by_cases e : i = n
    · subst e
      refine ⟨⟨rule, (i : Nat), -1, (plc ps i).home, -1⟩, .inr ?_, rfl⟩
      simp only [oneK, List.mem_append, two2]
      refine .inl (.inr ?_)
      simp only [if_true]
      unfold oneX; rw [if_pos ⟨h1, h2⟩]; simp
    · obtain ⟨x, hx, hr⟩ := oneL_mem n i (by omega) h1 h2
      exact ⟨x, .inl hx, hr⟩
theorem cpL_mem {c : Conf} {bk : List Int} : ∀ n i, i < n → bk.getD i 0 > capI c i → ∃ x ∈ cpL c bk n, x.rule = 8
  | 0, i, hi, _ => by omega
  | n + 1, i, hi, h1 => by
    simp only [cpL, List.mem_append]
    by_cases e : i = n
    · subst e
      refine ⟨⟨8, -1, -1, i, -1⟩, .inr ?_, rfl⟩
      unfold cpX; rw [if_pos h1]; simp
    · obtain ⟨x, hx, hr⟩ := cpL_mem n i (by omega) h1
      exact ⟨x, .inl hx, hr⟩
theorem firstN_none {q : Nat → Bool} : ∀ n, (∀ k, k < n → q k = false) → firstN q n = none
  | 0, _ => rfl
  | n + 1, h => firstN_next (firstN_none n (fun k hk => h k (by omega))) (h n (by omega))
/-- The bound is sound. -/
theorem sound_exc {p : Prob} (hc : ConfOk p.conf) {A G : List Plc} (hfit : FitP p.conf G) (ho : Xtd A G) (hhome : ∀ k : Nat, k < G.length → 0 ≤ (plc G k).home) (hno : ∀ x ∈ partL p G, x.rule ≠ 3 ∧ x.rule ≠ 4 ∧ x.rule ≠ 8) : exc p A = none := by
  have hmem : ∀ x, (x ∈ oneL 3 (fun _ n => bit p.cells n) G G.length ∨ x ∈ oneL 4 (fun i n => mayB p.conf i n) G G.length ∨ x ∈ cpL p.conf (booked p.conf G G.length) p.conf.cells.length) → x ∈ partL p G := by
    intro x hx
    unfold partL
    simp only [List.mem_append]
    rcases hx with hx | hx | hx
    · exact .inl (.inl (.inl (.inl (.inl (.inl hx)))))
    · exact .inl (.inl (.inl (.inl (.inl (.inr hx)))))
    · exact .inl (.inr hx)
  have hG : ∀ k : Nat, k < G.length → 0 ≤ (plc G k).home ∧ (plc G k).home < p.conf.cells.length ∧ okB p (k : Nat) (plc G k).home = true := fun k hk => by
    have h0 := hhome k hk
    have ok := hfit.2 _ (getD_mem (d := ⟨0, 0⟩) hk)
    refine ⟨h0, ok.h1, ?_⟩
    unfold okB
    cases hb : bit p.cells (plc G k).home with
    | false =>
      obtain ⟨x, hx, hr⟩ := oneL_mem (rule := 3) (h := fun _ n => bit p.cells n) G.length k hk (by omega) hb
      exact absurd hr (hno x (hmem x (.inl hx))).1
    | true =>
      cases hm : mayB p.conf (k : Nat) (plc G k).home with
      | true => rfl
      | false =>
        obtain ⟨x, hx, hr⟩ := oneL_mem (rule := 4) (h := fun i n => mayB p.conf i n) G.length k hk (by omega) hm
        exact absurd hr (hno x (hmem x (.inr (.inl hx)))).2.1
  have hcap : ∀ j : Nat, j < p.conf.cells.length → (booked p.conf G G.length).getD j 0 ≤ capOf p.conf (j : Nat) := fun j hj => by
    have e : capOf p.conf (j : Nat) = capI p.conf j := by unfold capOf capI; simp [hj]
    rw [e]
    refine Int.not_lt.1 fun h => ?_
    obtain ⟨x, hx, hr⟩ := cpL_mem (c := p.conf) (bk := booked p.conf G G.length) p.conf.cells.length j hj (by omega)
    exact absurd hr (hno x (hmem x (.inr (.inr hx)))).2.2
  refine firstN_none _ fun s _ => ?_
  have h1 := room_need hc ho (s : Nat) hG G.length (Nat.le_refl _) (by have := hfit.1; omega)
  have h2 := room_nn (p := p) (s : Nat) p.conf.cells.length hcap
  unfold overB
  rw [ho.1, decide_eq_false (show ¬ room p (booked p.conf A G.length) (s : Nat) p.conf.cells.length < need p A (s : Nat) G.length by omega), Bool.and_false]
theorem OkF_Places (L : List Int) (hL : I64s L) (c : Conf) (hc : ConfOk c) : ∃ ps : List Plc, ps.length = c.tens.length ∧ (∀ p, p ∈ ps → PlcOk c p) ∧ OkF (F PP shF 14 [dL L, .agg (eK c)] [] 0) (fun d H => ∃ b, SlB H b 2 (ps.map eP) d) := by
  suffices hs : OkF (F PP shF 14 [dL L, .agg (eK c)] [] 0) (fun e H => ∃ ps : List Plc, ps.length = c.tens.length ∧ (∀ p, p ∈ ps → PlcOk c p) ∧ ∃ b, SlB H b 2 (ps.map eP) e) by
    obtain ⟨e, H, h1, ps, h2, h3, h4⟩ := hs
    exact ⟨ps, h2, h3, e, H, h1, h4⟩
  refine F_ok PP14 rfl ⟨by simp [ir14], by simp⟩ ?_
  simp -implicitDefEqProofs only [go_sem, ir14, eK, vp_New]
  refine (places_l0 L hL c hc 0 _ ?_).mono ?_
  · refine ⟨[], 0, _, ?_, ?_, ?_, ?_, ?_, SlB.nil, ?_, rfl, by omega, by omega, by simp⟩ <;> simp -implicitDefEqProofs only [go_sem, eK]
  rintro e ⟨E, H⟩ ⟨rfl, ps, ov, e6, ho, len, rg⟩
  simp only at e6 ho
  simp -implicitDefEqProofs only [go_sem, e6]
  exact ⟨ps, len, rg, 45, ho⟩
def xfL (A F : List Plc) : Nat → List Plc
  | 0 => F
  | k + 1 => (xfL A F k).set k (fil (plc A k) (plc F k))
theorem xfL_len (A F : List Plc) : ∀ k, (xfL A F k).length = F.length
  | 0 => rfl
  | k + 1 => by simp [xfL, xfL_len A F k]
theorem xfL_get (A F : List Plc) : ∀ k j : Nat, j < F.length → plc (xfL A F k) j = if j < k then fil (plc A j) (plc F j) else plc F j
  | 0, j, h => by simp [xfL]
  | k + 1, j, h => by
    have ih := xfL_get A F k j h
    have hl := xfL_len A F k
    by_cases e : k = j
    · subst e
      rw [if_pos (by omega)]
      simp only [xfL]; unfold plc
      rw [List.getD_eq_getElem?_getD, List.getElem?_set_self (by omega)]; rfl
    · have : plc (xfL A F (k + 1)) j = plc (xfL A F k) j := by
        simp only [xfL]; unfold plc
        rw [List.getD_eq_getElem?_getD, List.getElem?_set_ne e, ← List.getD_eq_getElem?_getD]
      rw [this, ih]
      by_cases h2 : j < k
      · rw [if_pos h2, if_pos (by omega)]
      · rw [if_neg h2, if_neg (by omega)]
def K88 (p : Prob) (d11 d12 : DV) (w : VSt) : Prop := gt .bad w.E 9 = .mp 9 1 0 0 ∧ hg w.H 9 = ⟨1, 0, true, [eQ p]⟩ ∧ gt .bad w.E 12 = d12
def L88 (p : Prob) (d11 d12 : DV) (A F : List Plc) (k : Nat) (w : VSt) : Prop := K88 p d11 d12 w ∧ gt .bad w.E 10 = .ms 37 1 0 A.length A.length ∧ hg w.H 37 = ⟨1, 2, true, A.map eP⟩ ∧ gt .bad w.E 13 = .ms 47 1 0 F.length F.length ∧ hg w.H 47 = ⟨1, 2, true, (xfL A F k).map eP⟩ ∧ gt .bad w.E 14 = dI (k : Nat) ∧ k ≤ A.length ∧ ∀ j, j < k → 0 ≤ (fil (plc A j) (plc F j)).home
theorem sound_l0 (p : Prob) (d11 d12 : DV) (A F : List Plc) (hA : A.length ≤ 1000) (hF : F.length = A.length) : ∀ k w, L88 p d11 d12 A F k w → Ok (R PP shF 0 126 (.loop ir88_l0) w) (fun e w => (e = .ret ∧ gt .bad w.E 8 = dB true) ∨ (e = .exit 0 ∧ L88 p d11 d12 A F A.length w)) := by
  refine Ok_up A.length (L88 p d11 d12 A F) fun k w hI => ?_
  obtain ⟨E, H⟩ := w
  obtain ⟨⟨e9, h9, e12⟩, e10, h37, e13, h47, e14, hk, hj⟩ := hI
  simp only at e9 h9 e12 e10 h37 e13 h47 e14
  have w1 := w0L k (by omega)
  have xl := xfL_len A F k
  have tA : List.take A.length (A.map eP) = A.map eP := List.take_of_length_le (by simp)
  by_cases hlt : k < A.length
  · have d1 : decide ((k : Int) < (A.length : Int)) = true := decide_eq_true (by omega)
    have q0 : (0 : Int) ≤ (k : Int) := by omega
    have q1 : (k : Int) < (A.length : Int) := by omega
    have q2 : (k : Int) < (F.length : Int) := by omega
    have g1 : (xfL A F k)[k]? = some (plc F k) := by
      have := getD_at (l := xfL A F k) (i := k) (d := ⟨0, 0⟩) (by omega)
      rw [this]; have h := xfL_get A F k k (by omega); rw [if_neg (by omega)] at h; unfold plc at h ⊢; rw [h]
    have g2 : A[k]? = some (plc A k) := getD_at (by omega)
    have htk : ∀ a : Plc, List.take F.length (((xfL A F k).set k a).map eP) = ((xfL A F k).set k a).map eP := fun a => List.take_of_length_le (by simp; omega)
    have htk0 : List.take F.length ((xfL A F k).map eP) = (xfL A F k).map eP := List.take_of_length_le (by simp; omega)
    have hs2 : ∀ a c : Plc, (((xfL A F k).set k a).set k c) = (xfL A F k).set k c := fun a c => List.set_set ..
    have hln : ∀ a : Plc, ((xfL A F k).set k a).length = F.length := fun a => by simp; omega
    have hgt : ∀ a : Plc, ((xfL A F k).set k a)[k]? = some a := fun a => List.getElem?_set_self (by omega)
    have hX : xfL A F (k + 1) = (xfL A F k).set k (fil (plc A k) (plc F k)) := rfl
    have hXn : fil (plc A k) (plc F k) = plc F k → xfL A F (k + 1) = xfL A F k := fun h => by
      rw [hX, h]; apply List.ext_getElem?; intro i
      by_cases e : k = i
      · subst e; rw [List.getElem?_set_self (by omega), g1]
      · rw [List.getElem?_set_ne e]
    have hj2 : 0 ≤ (fil (plc A k) (plc F k)).home → ∀ j, j < k + 1 → 0 ≤ (fil (plc A j) (plc F j)).home := fun h j hjk => by
      by_cases e : j = k
      · rw [e]; exact h
      · exact hj j (by omega)
    by_cases hh : (plc A k).home < 0
    · have f1 : decide (0 ≤ (plc A k).home) = false := decide_eq_false (by omega)
      by_cases hs : (plc A k).sby < 0
      · have f2 : decide (0 ≤ (plc A k).sby) = false := decide_eq_false (by omega)
        have hf : fil (plc A k) (plc F k) = plc F k := by unfold fil; rw [if_pos hh, if_pos hs]
        have hXn := hXn hf
        rw [hf] at hj2
        by_cases hz : (plc F k).home < 0
        · have f3 : decide ((plc F k).home < 0) = true := decide_eq_true hz
          simp -implicitDefEqProofs only [go_sem, ir88_l0, e9, h9, e10, h37, e13, h47, e14, tA, d1, q0, q1, q2, xl, g1, g2, w1, f1, f2, f3, htk0, Nat.le_refl, vpS FV_awake18 rfl]
          refine .ret (.inl ⟨rfl, ?_⟩); simp -implicitDefEqProofs only [go_sem, ]
        · have f3 : decide ((plc F k).home < 0) = false := decide_eq_false hz
          simp -implicitDefEqProofs only [go_sem, ir88_l0, e9, h9, e10, h37, e13, h47, e14, tA, d1, q0, q1, q2, xl, g1, g2, w1, f1, f2, f3, htk0, Nat.le_refl]
          refine .next hlt ⟨⟨?_, ?_, ?_⟩, ?_, ?_, ?_, ?_, ?_, by omega, hj2 (by omega)⟩ <;> simp -implicitDefEqProofs only [go_sem, e9, h9, e12, e10, h37, e13, h47, w1, hXn]
      · have f2 : decide (0 ≤ (plc A k).sby) = true := decide_eq_true (by omega)
        have hf : fil (plc A k) (plc F k) = ⟨(plc F k).home, (plc A k).sby⟩ := by unfold fil; rw [if_pos hh, if_neg hs]
        rw [hf] at hX hj2
        by_cases hz : (plc F k).home < 0
        · have f3 : decide ((plc F k).home < 0) = true := decide_eq_true hz
          simp -implicitDefEqProofs only [go_sem, ir88_l0, e9, h9, e10, h37, e13, h47, e14, tA, d1, q0, q1, q2, xl, g1, g2, w1, f1, f2, f3, set_eP, htk0, htk, hs2, hln, hgt, Nat.le_refl, vpS FV_awake18 rfl]
          refine .ret (.inl ⟨rfl, ?_⟩); simp -implicitDefEqProofs only [go_sem, ]
        · have f3 : decide ((plc F k).home < 0) = false := decide_eq_false hz
          simp -implicitDefEqProofs only [go_sem, ir88_l0, e9, h9, e10, h37, e13, h47, e14, tA, d1, q0, q1, q2, xl, g1, g2, w1, f1, f2, f3, set_eP, htk0, htk, hs2, hln, hgt, Nat.le_refl]
          refine .next hlt ⟨⟨?_, ?_, ?_⟩, ?_, ?_, ?_, ?_, ?_, by omega, hj2 (by simp only; omega)⟩ <;> simp -implicitDefEqProofs only [go_sem, e9, h9, e12, e10, h37, e13, h47, w1, hX]
    · have f1 : decide (0 ≤ (plc A k).home) = true := decide_eq_true (by omega)
      have f3 : decide ((plc A k).home < 0) = false := decide_eq_false hh
      by_cases hs : (plc A k).sby < 0
      · have f2 : decide (0 ≤ (plc A k).sby) = false := decide_eq_false (by omega)
        have hf : fil (plc A k) (plc F k) = ⟨(plc A k).home, (plc F k).sby⟩ := by unfold fil; rw [if_neg hh, if_pos hs]
        rw [hf] at hX hj2
        simp -implicitDefEqProofs only [go_sem, ir88_l0, e9, h9, e10, h37, e13, h47, e14, tA, d1, q0, q1, q2, xl, g1, g2, w1, f1, f2, f3, set_eP, htk0, htk, hs2, hln, hgt, Nat.le_refl]
        refine .next hlt ⟨⟨?_, ?_, ?_⟩, ?_, ?_, ?_, ?_, ?_, by omega, hj2 (by simp only; omega)⟩ <;> simp -implicitDefEqProofs only [go_sem, e9, h9, e12, e10, h37, e13, h47, w1, hX]
      · have f2 : decide (0 ≤ (plc A k).sby) = true := decide_eq_true (by omega)
        have hf : fil (plc A k) (plc F k) = ⟨(plc A k).home, (plc A k).sby⟩ := by unfold fil; rw [if_neg hh, if_neg hs]
        rw [hf] at hX hj2
        simp -implicitDefEqProofs only [go_sem, ir88_l0, e9, h9, e10, h37, e13, h47, e14, tA, d1, q0, q1, q2, xl, g1, g2, w1, f1, f2, f3, set_eP, htk0, htk, hs2, hln, hgt, Nat.le_refl]
        refine .next hlt ⟨⟨?_, ?_, ?_⟩, ?_, ?_, ?_, ?_, ?_, by omega, hj2 (by simp only; omega)⟩ <;> simp -implicitDefEqProofs only [go_sem, e9, h9, e12, e10, h37, e13, h47, w1, hX]
  · have hkl : k = A.length := by omega
    have d1 : decide ((k : Int) < (A.length : Int)) = false := decide_eq_false (by omega)
    simp -implicitDefEqProofs only [go_sem, ir88_l0, e10, h37, e14, d1]
    subst hkl
    refine .exit (.inr ⟨rfl, ⟨?_, h9, ?_⟩, ?_, h37, ?_, h47, ?_, by omega, hj⟩) <;> simp -implicitDefEqProofs only [go_sem, e9, e12, e10, e13, e14]
def badR (x : Brk) : Prop := x.rule = 3 ∨ x.rule = 4 ∨ x.rule = 8
theorem sound_l1 (L : List Brk) (hL : L.length ≤ 1000) : ∀ k w, (gt .bad w.E 15 = .sl (L.map eB) ∧ gt .bad w.E 16 = dI (k : Nat) ∧ k ≤ L.length ∧ ∀ j, j < k → ¬ badR (L.getD j ⟨0, 0, 0, 0, 0⟩)) → Ok (R PP shF 0 126 (.loop ir88_l1) w) (fun e w => (e = .ret ∧ gt .bad w.E 8 = dB true) ∨ (e = .exit 2 ∧ ∀ x ∈ L, ¬ badR x)) := by
  refine Ok_up L.length (fun k w => gt .bad w.E 15 = .sl (L.map eB) ∧ gt .bad w.E 16 = dI (k : Nat) ∧ k ≤ L.length ∧ ∀ j, j < k → ¬ badR (L.getD j ⟨0, 0, 0, 0, 0⟩)) fun k w hI => ?_
  obtain ⟨E, H⟩ := w
  obtain ⟨e15, e16, hk, hj⟩ := hI
  simp only at e15 e16
  have w1 := w0L k (by omega)
  by_cases hlt : k < L.length
  · have d1 : decide ((k : Int) < (L.length : Int)) = true := decide_eq_true (by omega)
    have q0 : (0 : Int) ≤ (k : Int) := by omega
    have q1 : (k : Int) < (L.length : Int) := by omega
    have g1 := getD_at (l := L) (i := k) (d := ⟨0, 0, 0, 0, 0⟩) (by omega)
    have hj2 : ¬ badR (L.getD k ⟨0, 0, 0, 0, 0⟩) → ∀ j, j < k + 1 → ¬ badR (L.getD j ⟨0, 0, 0, 0, 0⟩) := fun h j hjk => by
      by_cases e : j = k
      · rw [e]; exact h
      · exact hj j (by omega)
    generalize L.getD k ⟨0, 0, 0, 0, 0⟩ = x at g1 hj2
    cases f3 : (x.rule == 3) with
    | true =>
      simp -implicitDefEqProofs only [go_sem, ir88_l1, e15, e16, d1, q0, q1, g1, w1, f3, vpS FV_awake18 rfl]
      refine .ret (.inl ⟨rfl, ?_⟩); simp -implicitDefEqProofs only [go_sem, ]
    | false =>
      cases f4 : (x.rule == 4) with
      | true =>
        simp -implicitDefEqProofs only [go_sem, ir88_l1, e15, e16, d1, q0, q1, g1, w1, f3, f4, vpS FV_awake18 rfl]
        refine .ret (.inl ⟨rfl, ?_⟩); simp -implicitDefEqProofs only [go_sem, ]
      | false =>
        cases f8 : (x.rule == 8) with
        | true =>
          simp -implicitDefEqProofs only [go_sem, ir88_l1, e15, e16, d1, q0, q1, g1, w1, f3, f4, f8, vpS FV_awake18 rfl]
          refine .ret (.inl ⟨rfl, ?_⟩); simp -implicitDefEqProofs only [go_sem, ]
        | false =>
          have hb : ¬ badR x := by
            simp only [beq_eq_false_iff_ne, ne_eq] at f3 f4 f8
            rintro (h | h | h)
            · exact f3 h
            · exact f4 h
            · exact f8 h
          simp -implicitDefEqProofs only [go_sem, ir88_l1, e15, e16, d1, q0, q1, g1, w1, f3, f4, f8]
          refine .next hlt ⟨?_, ?_, by omega, hj2 hb⟩ <;> simp -implicitDefEqProofs only [go_sem, e15, w1]
  · have hkl : k = L.length := by omega
    have d1 : decide ((k : Int) < (L.length : Int)) = false := decide_eq_false (by omega)
    simp -implicitDefEqProofs only [go_sem, ir88_l1, e15, e16, d1]
    refine .exit (.inr ⟨rfl, fun x hx => ?_⟩)
    obtain ⟨j, hj3, rfl⟩ := List.getElem_of_mem hx
    have := hj j (by omega)
    rw [List.getD_eq_getElem?_getD, List.getElem?_eq_getElem hj3] at this
    exact this
theorem exc_nil {p : Prob} (hc : ConfOk p.conf) : exc p [] = none := by
  refine firstN_none _ fun s _ => ?_
  have h2 := room_nn (p := p) (bk := booked p.conf [] 0) (s : Nat) p.conf.cells.length (fun j hj => by
    have := cap_bd hc hj
    have e : (booked p.conf [] 0).getD j 0 = 0 := by
      simp only [booked]; rw [List.getD_eq_getElem?_getD, List.getElem?_replicate]; split <;> rfl
    omega)
  unfold overB
  simp only [List.length_nil]
  rw [decide_eq_false (show ¬ room p (booked p.conf [] 0) (s : Nat) p.conf.cells.length < need p [] (s : Nat) 0 by simp only [need]; omega), Bool.and_false]
theorem sound_nil88 (w : VSt) : (gt .bad w.E 10 = .lit (.slice none 0 0) ∧ gt .bad w.E 14 = dI 0 ∧ gt .bad w.E 12 = dB false) → Ok (R PP shF 0 126 (.loop ir88_l0) w) (fun e w => e = .exit 0 ∧ gt .bad w.E 12 = dB false) := by
  refine Ok_up 0 (fun _ w => gt .bad w.E 10 = .lit (.slice none 0 0) ∧ gt .bad w.E 14 = dI 0 ∧ gt .bad w.E 12 = dB false) (fun k w hI => ?_) 0 w
  obtain ⟨E, H⟩ := w
  obtain ⟨e10, e14, e12⟩ := hI
  simp only at e10 e14 e12
  simp -implicitDefEqProofs only [go_sem, ir88_l0, e10, e14]
  refine .exit ⟨rfl, ?_⟩
  simp -implicitDefEqProofs only [go_sem, e12]
theorem xf_ext {c : Conf} {A B : List Plc} (hA : FitP c A) (hB : FitP c B) : Xtd A (xfL A B A.length) ∧ FitP c (xfL A B A.length) := by
  have hl := xfL_len A B A.length
  have hab : B.length = A.length := by rw [hA.1, hB.1]
  have hx : ∀ k : Nat, k < A.length → plc (xfL A B A.length) k = fil (plc A k) (plc B k) := fun k hk => by rw [xfL_get A B A.length k (by omega), if_pos hk]
  have hfit : ∀ k : Nat, k < A.length → PlcOk c (plc A k) ∧ PlcOk c (plc B k) := fun k hk => ⟨hA.2 _ (getD_mem hk), hB.2 _ (getD_mem (by omega))⟩
  refine ⟨⟨by omega, fun k hk => ?_⟩, by rw [hl]; exact hB.1, fun x hx2 => ?_⟩
  · rw [hl] at hk
    rw [hx k (by omega)]
    have h1 := (hfit k (by omega)).1.h0
    have h2 := (hfit k (by omega)).1.s0
    unfold fil
    constructor
    · by_cases h : (plc A k).home < 0
      · right; omega
      · left; simp only; rw [if_neg h]
    · by_cases h : (plc A k).sby < 0
      · right; omega
      · left; simp only; rw [if_neg h]
  · obtain ⟨k, hk, rfl⟩ := List.getElem_of_mem hx2
    rw [hl] at hk
    have e : (xfL A B A.length)[k] = plc (xfL A B A.length) k := by unfold plc; rw [List.getD_eq_getElem?_getD, List.getElem?_eq_getElem]; rfl
    rw [e, hx k (by omega)]
    have h1 := (hfit k (by omega)).1
    have h2 := (hfit k (by omega)).2
    unfold fil
    refine ⟨?_, ?_, ?_, ?_⟩ <;> simp only <;> split
    · exact h2.h0
    · exact h1.h0
    · exact h2.h1
    · exact h1.h1
    · exact h2.s0
    · exact h1.s0
    · exact h2.s1
    · exact h1.s1
theorem law_BoundSound (l : List Int) (hl : I64s l) (m : List Int) (hm : I64s m) (n : List Int) (hn : I64s n) (cells : Int) (h1 : I64 cells) : OkF (F PP shF 88 [dL l, dL m, dL n, dI cells] [] 0) (fun d _ => d = dB true) := by
  refine F_ok PP88 rfl ⟨by simp [ir88], by simp⟩ ?_
  have L := FV_Light l
  have L2 := FV_Light m
  have L3 := FV_Light n
  by_cases hlen : l.length ≤ 200
  case neg => rw [decide_eq_false hlen] at L; simp -implicitDefEqProofs only [go_sem, ir88, vpS L rfl, vpS FV_awake18 rfl]
  rw [decide_eq_true hlen] at L
  by_cases hlen2 : m.length ≤ 200
  case neg => rw [decide_eq_false hlen2] at L2; simp -implicitDefEqProofs only [go_sem, ir88, vpS L rfl, vpS L2 rfl, vpS FV_awake18 rfl]
  rw [decide_eq_true hlen2] at L2
  by_cases hlen3 : n.length ≤ 200
  case neg => rw [decide_eq_false hlen3] at L3; simp -implicitDefEqProofs only [go_sem, ir88, vpS L rfl, vpS L2 rfl, vpS L3 rfl, vpS FV_awake18 rfl]
  rw [decide_eq_true hlen3] at L3
  obtain ⟨p, hc, hcells, hhd, hP⟩ := FV_Problem l hl cells h1 false
  obtain ⟨ps, hps1, hps2, hQ⟩ := OkF_Places m hm p.conf hc
  obtain ⟨qs, hqs1, hqs2, hQ2⟩ := OkF_Places n hn p.conf hc
  have hfit : FitP p.conf ps := ⟨hps1, hps2⟩
  have hfit2 : FitP p.conf qs := ⟨hqs1, hqs2⟩
  have ht := hc.t1
  have P1 := vpU hQ (lits_eP ps)
  have P2 := vpU hQ2 (lits_eP qs)
  have X1 := FV_Exceeded p hc ps hps1
  by_cases hp0 : ps = []
  · subst hp0
    obtain rfl : qs = [] := List.length_eq_zero_iff.1 (by rw [hqs1, ← hps1]; rfl)
    rw [exc_nil hc] at X1
    simp only [List.map_nil, ↓reduceIte] at X1 P1 P2
    simp -implicitDefEqProofs only [go_sem, ir88, vpS L rfl, vpS L2 rfl, vpS L3 rfl, vpL hP rfl, eQ, eK, P1, P2, vpS FV_awake18 rfl, vpS X1 rfl, excD]
    refine (sound_nil88 _ ⟨?_, ?_, ?_⟩).mono ?_ <;> (try simp -implicitDefEqProofs only [go_sem, ]) <;> (try rfl)
    rintro e ⟨E, H⟩ ⟨rfl, e12⟩
    simp only at e12
    simp -implicitDefEqProofs only [go_sem, e12, vpS FV_awake18 rfl]
  have hp1 : 1 ≤ ps.length := by have := List.length_pos_iff.2 hp0; omega
  have z0 : ps.map eP ≠ [] := by simpa using hp0
  have z1 : qs.map eP ≠ [] := by
    have : qs ≠ [] := List.length_pos_iff.1 (by omega)
    simpa using this
  simp only [z0, z1, ↓reduceIte] at P1 P2
  have tA : List.take ps.length (ps.map eP) = ps.map eP := List.take_of_length_le (by simp)
  have c1 := closed_eP ps
  cases hx : exc p ps with
  | none =>
    rw [hx] at X1
    simp -implicitDefEqProofs only [go_sem, ir88, vpS L rfl, vpS L2 rfl, vpS L3 rfl, vpL hP rfl, eQ, eK, P1, P2, vpS FV_awake18 rfl, vpS X1 rfl, excD, tA, c1, Nat.le_refl]
    refine (sound_l0 p (dI 0) (dB false) ps qs (by omega) (by omega) 0 _ ⟨⟨?_, ?_, ?_⟩, ?_, ?_, ?_, ?_, ?_, by omega, by omega⟩).mono ?_ <;> (try simp -implicitDefEqProofs only [go_sem, xfL, eQ, eK]) <;> (try rfl)
    rintro e ⟨E, H⟩ (⟨rfl, e8⟩ | ⟨rfl, ⟨e9, h9, e12⟩, _⟩)
    · simp only at e8; simp -implicitDefEqProofs only [go_sem, e8]
    simp only at e9 h9 e12
    simp -implicitDefEqProofs only [go_sem, e12, vpS FV_awake18 rfl]
  | some k =>
    rw [hx] at X1
    simp -implicitDefEqProofs only [go_sem, ir88, vpS L rfl, vpS L2 rfl, vpS L3 rfl, vpL hP rfl, eQ, eK, P1, P2, vpS FV_awake18 rfl, vpS X1 rfl, excD, tA, c1, Nat.le_refl]
    refine (sound_l0 p (dI k) (dB true) ps qs (by omega) (by omega) 0 _ ⟨⟨?_, ?_, ?_⟩, ?_, ?_, ?_, ?_, ?_, by omega, by omega⟩).mono ?_ <;> (try simp -implicitDefEqProofs only [go_sem, xfL, eQ, eK]) <;> (try rfl)
    rintro e ⟨E, H⟩ (⟨rfl, e8⟩ | ⟨rfl, ⟨e9, h9, e12⟩, e10, h37, e13, h47, e14, _, hj⟩)
    · simp only at e8; simp -implicitDefEqProofs only [go_sem, e8]
    simp only at e9 h9 e12 e13 h47
    obtain ⟨g1, g2⟩ := xf_ext hfit hfit2
    have gl := xfL_len ps qs ps.length
    have gj : ∀ j : Nat, j < (xfL ps qs ps.length).length → 0 ≤ (plc (xfL ps qs ps.length) j).home := fun j hjl => by
      rw [gl] at hjl
      rw [xfL_get ps qs ps.length j hjl, if_pos (by omega)]; exact hj j (by omega)
    generalize xfL ps qs ps.length = G at *
    have A1 := FVF_Partial p hc G (by have := g2.1; omega)
    rw [(fit_iff hc G).2 g2, if_pos rfl] at A1
    have pl := partL_len hc g2
    have tG : List.take qs.length (G.map eP) = G.map eP := List.take_of_length_le (by simp; omega)
    have cG := closed_eP G
    simp -implicitDefEqProofs only [go_sem, eQ, e9, h9, e12, e13, h47, gl, tG, cG, Nat.le_refl, vpF A1 rfl]
    refine (sound_l1 (partL p G) (by omega) 0 _ ⟨?_, ?_, by omega, by omega⟩).mono ?_ <;> (try simp -implicitDefEqProofs only [go_sem, ]) <;> (try rfl)
    rintro e ⟨E, H⟩ (⟨rfl, e8⟩ | ⟨rfl, hno⟩)
    · simp only at e8; simp -implicitDefEqProofs only [go_sem, e8]
    · exfalso
      have := sound_exc hc g2 g1 gj (fun x hx => by
        have := hno x hx
        unfold badR at this
        simp only [not_or] at this
        exact this)
      rw [hx] at this; cases this
end Go.Proofs.Cp
