/- What the functions answer (part 1). -/
import Derived.Test.YtbgdpdkkbmlhdaaFn0
set_option linter.unusedSimpArgs false
set_option linter.unusedVariables false
set_option maxRecDepth 100000
namespace Go.Proofs.Cp
open Go
theorem rfits_core (c : Conf) (hc : ConfOk c) (ps : List Plc) (hfit : FitP c ps) (k : Nat) (hk : k < ps.length) (h s : Int) (n1 : -1 ≤ h ∧ h < c.cells.length) (n2 : -1 ≤ s ∧ s < c.cells.length) :
    FV PP shF 227 [.agg (eK c), .sl (ps.map eP), .agg (eM ⟨(k : Nat), h, s⟩)] = some (dB (stepB c (plc ps k) ⟨(k : Nat), h, s⟩ && (if h = (plc ps k).home then ldB c ps s (ten c (k : Nat)).shadow else ldB c ps h (ten c (k : Nat)).load))) := by
  have ht1 := hc.t1
  have hpl := hfit.1
  have A1 := FV_mValid c hc ps (by omega)
  rw [(fit_iff hc ps).2 hfit] at A1
  have f0 : decide ((k : Int) < 0) = false := decide_eq_false (by omega)
  have f1 : decide ((ps.length : Int) ≤ (k : Int)) = false := decide_eq_false (by omega)
  have f2 : decide (h < -1) = false := decide_eq_false (by omega)
  have f3 : decide ((c.cells.length : Int) ≤ h) = false := decide_eq_false (by omega)
  have f4 : decide (s < -1) = false := decide_eq_false (by omega)
  have f5 : decide ((c.cells.length : Int) ≤ s) = false := decide_eq_false (by omega)
  have g1 : ps[k]? = some (plc ps k) := getD_at hk
  have g2 : c.tens[k]? = some (ten c (k : Nat)) := getD_at (l := c.tens) (i := k) (d := ⟨0, 0, 0, 0, 0, 0, false⟩) (by omega)
  have q0 : (0 : Int) ≤ (k : Int) := by omega
  have q1 : (k : Int) < (ps.length : Int) := by omega
  have q2 : (k : Int) < (c.tens.length : Int) := by omega
  have tk := ten_ok hc (k := k) (by omega)
  have l0 := tk.l0
  have l1 := tk.l1
  have s0 := tk.s0
  have s1 := tk.s1
  have AP := FV_rApart c hc h s
  have P := FV_mall c
  have BK := FVF_rBooked ⟨c, 65535, false⟩ hc ps (by simp only; omega)
  simp only at BK
  rw [show booked c ps ps.length = bkM c ps from rfl] at BK
  have ok := hfit.2 _ (List.mem_of_getElem? g1)
  have o0 := ok.h0
  have o1 := ok.s0
  change -1 ≤ (plc ps k).home at o0
  change -1 ≤ (plc ps k).sby at o1
  clear ok
  generalize plc ps k = x at *
  unfold stepB
  simp only
  refine FV_ok (F_ok PP227 rfl ⟨by simp [ir227], by simp⟩ ?_)
  have ld : ∀ n l : Int, -1 ≤ n → n < c.cells.length → n ≠ -1 → 0 ≤ l → l ≤ 12 → (n == -1) = false ∧ (0 ≤ n) ∧ (n < ((bkM c ps).length : Int)) ∧ ((bkM c ps)[n.toNat]? = some ((bkM c ps).getD n.toNat 0)) ∧ (c.cells[n.toNat]? = some (c.cells.getD n.toNat ⟨0, 0⟩)) ∧ IntKind.wrap .i64 ((bkM c ps).getD n.toNat 0 + l) = (bkM c ps).getD n.toNat 0 + l ∧ decide (n < 0) = false := fun n l h1 h2 h3 h4 h5 => by
    obtain ⟨a1, a2, a3, a4, a5⟩ := bk_idx hc hfit.1 (n := n) (by omega) h2
    exact ⟨by simpa using h3, by omega, by omega, a2, a3, w64 (by omega) (by omega), decide_eq_false (by omega)⟩
  by_cases e1 : h = x.home
  · subst e1
    rw [if_pos rfl]
    have ee : (x.home == x.home) = true := by simp
    by_cases e2 : s = x.sby
    · subst e2
      simp -implicitDefEqProofs only [go_sem, ir227, eK, eM, eP, vpS A1 rfl, f0, f1, f2, f3, f4, f5, bft, btf, bff, btt, g1, g2, q0, q1, q2, nbe]
    · have b2 : (s != x.sby) = true := by simpa using e2
      have b2' : (x.sby != s) = true := by simpa using fun a => e2 a.symm
      have l3 := ld s (ten c (k : Nat)).shadow n2.1 n2.2
      by_cases e3 : x.home = -1
      · have b3 : (x.home == -1) = true := by simpa using e3
        have b4 : (x.home != -1) = false := by simpa using e3
        have d3 : decide (x.home < 0) = true := decide_eq_true (by omega)
        have d4 : decide (0 ≤ x.home) = false := decide_eq_false (by omega)
        by_cases e4 : s = -1
        · have b5 : (s == -1) = true := by simpa using e4
          have d5 : decide (s < 0) = true := decide_eq_true (by omega)
          have hl : ldB c ps s (ten c (k : Nat)).shadow = true := by unfold ldB; rw [b5]; rfl
          simp -implicitDefEqProofs only [go_sem, ir227, eK, eM, eP, vpS A1 rfl, f0, f1, f2, f3, f4, f5, bft, btf, bff, btt, g1, g2, q0, q1, q2, nbe, ee, b2, b2', b3, b4, d3, d4, d5, hl]
        · obtain ⟨y1, y2, y3, y4, y5, y6, d5⟩ := l3 e4 s0 (by omega)
          have hl : ldB c ps s (ten c (k : Nat)).shadow = decide ((bkM c ps).getD s.toNat 0 + (ten c (k : Nat)).shadow ≤ (c.cells.getD s.toNat ⟨0, 0⟩).cap) := by unfold ldB; rw [y1]; rfl
          have y7 := n2.2
          simp -implicitDefEqProofs only [go_sem, ir227, eK, eM, eP, vpS A1 rfl, f0, f1, f2, f3, f4, f5, bft, btf, bff, btt, g1, g2, q0, q1, q2, eQ, nbe, ee, b2, b2', b3, b4, d3, d4, d5, y2, y3, y4, y5, y6, y7, hl, vpL P rfl, vpF BK rfl]
      · have b3 : (x.home == -1) = false := by simpa using e3
        have b4 : (x.home != -1) = true := by simpa using e3
        have d3 : decide (x.home < 0) = false := decide_eq_false (by omega)
        have d4 : decide (0 ≤ x.home) = true := decide_eq_true (by omega)
        by_cases e4 : s = -1
        · have b5 : (s == -1) = true := by simpa using e4
          have b6 : (s != -1) = false := by simpa using e4
          have d5 : decide (s < 0) = true := decide_eq_true (by omega)
          have d6 : decide (0 ≤ s) = false := decide_eq_false (by omega)
          have hl : ldB c ps s (ten c (k : Nat)).shadow = true := by unfold ldB; rw [b5]; rfl
          simp -implicitDefEqProofs only [go_sem, ir227, eK, eM, eP, vpS A1 rfl, f0, f1, f2, f3, f4, f5, bft, btf, bff, btt, g1, g2, q0, q1, q2, nbe, ee, b2, b2', b3, b4, b6, d3, d4, d5, d6, hl]
        · obtain ⟨y1, y2, y3, y4, y5, y6, d5⟩ := l3 e4 s0 (by omega)
          have b6 : (s != -1) = true := by simpa using e4
          have d6 : decide (0 ≤ s) = true := decide_eq_true (by omega)
          have hl : ldB c ps s (ten c (k : Nat)).shadow = decide ((bkM c ps).getD s.toNat 0 + (ten c (k : Nat)).shadow ≤ (c.cells.getD s.toNat ⟨0, 0⟩).cap) := by unfold ldB; rw [y1]; rfl
          have y7 := n2.2
          cases ap : apartB c x.home s with
          | false =>
            rw [ap] at AP
            simp -implicitDefEqProofs only [go_sem, ir227, eK, eM, eP, vpS A1 rfl, f0, f1, f2, f3, f4, f5, bft, btf, bff, btt, g1, g2, q0, q1, q2, nbe, ee, b2, b2', b3, b4, b6, d3, d4, d5, d6, vpS AP rfl]
          | true =>
            rw [ap] at AP
            simp -implicitDefEqProofs only [go_sem, ir227, eK, eM, eP, vpS A1 rfl, f0, f1, f2, f3, f4, f5, bft, btf, bff, btt, g1, g2, q0, q1, q2, eQ, nbe, ee, b2, b2', b3, b4, b6, d3, d4, d5, d6, y2, y3, y4, y5, y6, y7, hl, vpS AP rfl, vpL P rfl, vpF BK rfl]
  · have b1 : (h != x.home) = true := by simpa using e1
    have b1' : (x.home != h) = true := by simpa using fun a => e1 a.symm
    have b1e : (x.home == h) = false := by simpa using fun a => e1 a.symm
    rw [if_neg e1]
    by_cases e2 : s = x.sby
    case neg =>
      have b2 : (s != x.sby) = true := by simpa using e2
      have b2' : (x.sby != s) = true := by simpa using fun a => e2 a.symm
      simp -implicitDefEqProofs only [go_sem, ir227, eK, eM, eP, vpS A1 rfl, f0, f1, f2, f3, f4, f5, bft, btf, bff, btt, g1, g2, q0, q1, q2, b1, b1', b2, b2']
    subst e2
    have l3 := ld h (ten c (k : Nat)).load n1.1 n1.2
    by_cases e3 : h = -1
    · have b3 : (h == -1) = true := by simpa using e3
      have b4 : (x.home != -1) = true := by rw [← e3]; exact b1'
      have d3 : decide (h < 0) = true := decide_eq_true (by omega)
      have d4 : decide (0 ≤ x.home) = true := decide_eq_true (by have : x.home ≠ -1 := by simpa using b4
                                                                 omega)
      simp -implicitDefEqProofs only [go_sem, ir227, eK, eM, eP, vpS A1 rfl, f0, f1, f2, f3, f4, f5, bft, btf, bff, btt, g1, g2, q0, q1, q2, nbe, b1, b1', b3, b4, d3, d4]
    · obtain ⟨y1, y2, y3, y4, y5, y6, d5⟩ := l3 e3 (by omega) l1
      have b6 : (h != -1) = true := by simpa using e3
      have d6 : decide (0 ≤ h) = true := decide_eq_true (by omega)
      have hl : ldB c ps h (ten c (k : Nat)).load = decide ((bkM c ps).getD h.toNat 0 + (ten c (k : Nat)).load ≤ (c.cells.getD h.toNat ⟨0, 0⟩).cap) := by unfold ldB; rw [y1]; rfl
      have y7 := n1.2
      by_cases e4 : x.sby = -1
      · have b7 : (x.sby != -1) = false := by simpa using e4
        have d7 : decide (0 ≤ x.sby) = false := decide_eq_false (by omega)
        simp -implicitDefEqProofs only [go_sem, ir227, eK, eM, eP, vpS A1 rfl, f0, f1, f2, f3, f4, f5, bft, btf, bff, btt, g1, g2, q0, q1, q2, eQ, nbe, b1, b1', b1e, b6, b7, d5, d6, d7, y1, y2, y3, y4, y5, y6, y7, hl, vpL P rfl, vpF BK rfl]
      · have b7 : (x.sby != -1) = true := by simpa using e4
        have d7 : decide (0 ≤ x.sby) = true := decide_eq_true (by omega)
        cases ap : apartB c h x.sby with
        | false =>
          rw [ap] at AP
          simp -implicitDefEqProofs only [go_sem, ir227, eK, eM, eP, vpS A1 rfl, f0, f1, f2, f3, f4, f5, bft, btf, bff, btt, g1, g2, q0, q1, q2, nbe, b1, b1', b1e, b6, b7, d5, d6, d7, y1, vpS AP rfl]
        | true =>
          rw [ap] at AP
          simp -implicitDefEqProofs only [go_sem, ir227, eK, eM, eP, vpS A1 rfl, f0, f1, f2, f3, f4, f5, bft, btf, bff, btt, g1, g2, q0, q1, q2, eQ, nbe, b1, b1', b1e, b6, b7, d5, d6, d7, y1, y2, y3, y4, y5, y6, y7, hl, vpS AP rfl, vpL P rfl, vpF BK rfl]
theorem FV_rFits (c : Conf) (hc : ConfOk c) (ps : List Plc) (hps : ps.length ≤ 1000) (m : Mv) : FV PP shF 227 [.agg (eK c), .sl (ps.map eP), .agg (eM m)] = some (dB (fitsM c ps m)) := by
  obtain ⟨t, h, s⟩ := m
  have A1 := FV_mValid c hc ps hps
  cases hf : fitB c ps with
  | false =>
    rw [hf] at A1
    have e : fitsM c ps ⟨t, h, s⟩ = false := by unfold fitsM; rw [hf]; rfl
    refine FV_ok (F_ok PP227 rfl ⟨by simp [ir227], by simp⟩ ?_)
    simp -implicitDefEqProofs only [go_sem, ir227, eK, eM, vpS A1 rfl, e]
  | true =>
  rw [hf] at A1
  have hfit := (fit_iff hc ps).1 hf
  have ht1 := hc.t1
  by_cases t0 : t < 0
  · have e : fitsM c ps ⟨t, h, s⟩ = false := by unfold fitsM; rw [hf, decide_eq_false (show ¬ 0 ≤ t by omega)]; rfl
    have f := decide_eq_true t0
    refine FV_ok (F_ok PP227 rfl ⟨by simp [ir227], by simp⟩ ?_)
    simp -implicitDefEqProofs only [go_sem, ir227, eK, eM, vpS A1 rfl, f, e]
  have f0 := decide_eq_false t0
  by_cases t1 : (ps.length : Int) ≤ t
  · have e : fitsM c ps ⟨t, h, s⟩ = false := by unfold fitsM; rw [hf, decide_eq_true (show 0 ≤ t by omega), decide_eq_false (show ¬ t < (ps.length : Int) by omega)]; rfl
    have f := decide_eq_true t1
    refine FV_ok (F_ok PP227 rfl ⟨by simp [ir227], by simp⟩ ?_)
    simp -implicitDefEqProofs only [go_sem, ir227, eK, eM, vpS A1 rfl, f0, f, e]
  have f1 := decide_eq_false t1
  by_cases a1 : h < -1
  · have n1 : nmB c h = false := by unfold nmB; rw [decide_eq_false (by omega)]; rfl
    have e : fitsM c ps ⟨t, h, s⟩ = false := by unfold fitsM; simp only; rw [n1]; simp
    have f := decide_eq_true a1
    refine FV_ok (F_ok PP227 rfl ⟨by simp [ir227], by simp⟩ ?_)
    simp -implicitDefEqProofs only [go_sem, ir227, eK, eM, vpS A1 rfl, f0, f1, f, e]
  have f2 := decide_eq_false a1
  by_cases a2 : (c.cells.length : Int) ≤ h
  · have n1 : nmB c h = false := by unfold nmB; rw [decide_eq_false (show ¬ h < (c.cells.length : Int) by omega), Bool.and_false]
    have e : fitsM c ps ⟨t, h, s⟩ = false := by unfold fitsM; simp only; rw [n1]; simp
    have f := decide_eq_true a2
    refine FV_ok (F_ok PP227 rfl ⟨by simp [ir227], by simp⟩ ?_)
    simp -implicitDefEqProofs only [go_sem, ir227, eK, eM, vpS A1 rfl, f0, f1, f2, f, e]
  have f3 := decide_eq_false a2
  by_cases a3 : s < -1
  · have n1 : nmB c s = false := by unfold nmB; rw [decide_eq_false (by omega)]; rfl
    have e : fitsM c ps ⟨t, h, s⟩ = false := by unfold fitsM; simp only; rw [n1]; simp
    have f := decide_eq_true a3
    refine FV_ok (F_ok PP227 rfl ⟨by simp [ir227], by simp⟩ ?_)
    simp -implicitDefEqProofs only [go_sem, ir227, eK, eM, vpS A1 rfl, f0, f1, f2, f3, f, e]
  have f4 := decide_eq_false a3
  by_cases a4 : (c.cells.length : Int) ≤ s
  · have n1 : nmB c s = false := by unfold nmB; rw [decide_eq_false (show ¬ s < (c.cells.length : Int) by omega), Bool.and_false]
    have e : fitsM c ps ⟨t, h, s⟩ = false := by unfold fitsM; simp only; rw [n1]; simp
    have f := decide_eq_true a4
    refine FV_ok (F_ok PP227 rfl ⟨by simp [ir227], by simp⟩ ?_)
    simp -implicitDefEqProofs only [go_sem, ir227, eK, eM, vpS A1 rfl, f0, f1, f2, f3, f4, f, e]
  have n1 : nmB c h = true := by unfold nmB; rw [decide_eq_true (by omega), decide_eq_true (by omega)]; rfl
  have n2 : nmB c s = true := by unfold nmB; rw [decide_eq_true (by omega), decide_eq_true (by omega)]; rfl
  have hb : fitsM c ps ⟨t, h, s⟩ = (stepB c (plc ps t.toNat) ⟨t, h, s⟩ && (if h = (plc ps t.toNat).home then ldB c ps s (ten c t).shadow else ldB c ps h (ten c t).load)) := by
    unfold fitsM; simp only; rw [hf, n1, n2, decide_eq_true (show 0 ≤ t by omega), decide_eq_true (show t < (ps.length : Int) by omega)]; rfl
  obtain ⟨k, rfl⟩ : ∃ k : Nat, t = k := ⟨t.toNat, by omega⟩
  have K := rfits_core c hc ps hfit k (by omega) h s ⟨by omega, by omega⟩ ⟨by omega, by omega⟩
  rw [hb]
  simp only [Int.toNat_natCast]
  exact K
theorem closed_eM (l : List Mv) : (l.map eM).all closedL = true := by simp [List.all_eq_true, closedL, closedD]
theorem lits_eM (l : List Mv) : (l.map eM).all (fun el => el.all lit1) = true := by simp [List.all_eq_true, lit1]
def bkX (c : Conf) (A B : List Plc) (i : Nat) : List Mv := if (plc A i).home = (plc B i).home ∧ (plc A i).sby = (plc B i).sby then [] else [nxM c i (plc A i) (plc B i)]
def bkL (c : Conf) (A B : List Plc) : Nat → List Mv
  | 0 => []
  | i + 1 => bkL c A B i ++ bkX c A B i
theorem bkL_len (c : Conf) (A B : List Plc) : ∀ k, (bkL c A B k).length ≤ k
  | 0 => by simp [bkL]
  | k + 1 => by
    simp only [bkL, List.length_append]; have := bkL_len c A B k
    have : (bkX c A B k).length ≤ 1 := by unfold bkX; split <;> simp
    omega
def S229 (b : Nat) : Prop := b = 7 ∨ b = 46
def L229 (c : Conf) (A B : List Plc) (i : Nat) (w : VSt) : Prop := ∃ ov : DV, gt .bad w.E 1 = .sl (A.map eP) ∧ gt .bad w.E 2 = .sl (B.map eP) ∧ gt .bad w.E 3 = .mp 3 1 0 0 ∧ hg w.H 3 = ⟨1, 0, true, [eK c]⟩ ∧ gt .bad w.E 7 = ov ∧ SlO w.H S229 3 ((bkL c A B i).map eM) ov ∧ gt .bad w.E 20 = dI (A.length : Nat) ∧ gt .bad w.E 21 = dI (i : Nat) ∧ i ≤ A.length
theorem blocked_l0 (c : Conf) (hc : ConfOk c) (A B : List Plc) (hA : A.length ≤ 1000) (hB : B.length = A.length) : ∀ i w, L229 c A B i w → Ok (R PP shF 0 49 (.loop ir229_l0) w) (fun e w => e = .exit 0 ∧ ∃ ov, gt .bad w.E 7 = ov ∧ SlO w.H S229 3 ((bkL c A B A.length).map eM) ov) := by
  refine Ok_up A.length (L229 c A B) fun i w hI => ?_
  obtain ⟨E, H⟩ := w
  obtain ⟨ov, e1, e2, e3, h3, e7, ho, e20, e21, hk⟩ := hI
  simp only at e1 e2 e3 h3 e7 ho e20 e21
  have w1 : IntKind.wrap .i64 ((i : Int) + 1) = ((i + 1 : Nat) : Int) := by rw [w64 (by omega) (by omega)]; rfl
  by_cases hlt : i < A.length
  · have d1 : decide ((i : Int) < (A.length : Int)) = true := decide_eq_true (by omega)
    have q0 : (0 : Int) ≤ (i : Int) := by omega
    have q1 : (i : Int) < (A.length : Int) := by omega
    have q2 : (i : Int) < (B.length : Int) := by omega
    have g1 : A[i]? = some (plc A i) := getD_at hlt
    have g2 : B[i]? = some (plc B i) := getD_at (by omega)
    have hl := bkL_len c A B i
    have hK : bkL c A B (i + 1) = bkL c A B i ++ bkX c A B i := rfl
    have NX := FV_next c hc i (plc A i) (plc B i)
    unfold bkX at hK
    generalize plc A i = a at *
    generalize plc B i = b at *
    generalize hm : nxM c i a b = m at *
    have A0 := (ho.hs (d := 45) (x := ⟨(hg H 45).ver + 1, 3, true, [eM m]⟩) (by unfold S229; omega)).app (bytes := 24) (base := 0) (d := 46) (x := .ms 45 ((hg H 45).ver + 1) 0 1 1) (elems_ms1 (by rw [hg_hs, if_pos rfl]) (by decide) rfl) (by unfold S229; omega) (by simp [oneD]) (by decide) (by simp; omega) (by simp; omega)
    by_cases x1 : a.home = b.home
    · have b1 : (a.home == b.home) = true := by simpa using x1
      by_cases x2 : a.sby = b.sby
      · have b2 : (a.sby == b.sby) = true := by simpa using x2
        rw [if_pos ⟨x1, x2⟩, List.append_nil] at hK
        simp -implicitDefEqProofs only [go_sem, ir229_l0, e1, e2, e3, h3, e7, e20, e21, d1, q0, q1, q2, g1, g2, w1, b1, b2]
        refine .next hlt ⟨ov, ?_, ?_, ?_, ?_, ?_, ?_, ?_, ?_, by omega⟩ <;> (try simp -implicitDefEqProofs only [go_sem, e1, e2, e3, h3, e7, e20, w1])
        rw [hK]; exact ho
      · have b2 : (a.sby == b.sby) = false := by simpa using x2
        rw [if_neg (fun h => x2 h.2)] at hK
        simp -implicitDefEqProofs only [go_sem, ir229_l0, eK, eM, e1, e2, e3, h3, e7, e20, e21, d1, q0, q1, q2, g1, g2, w1, b1, b2, vpS NX rfl, A0.1]
        obtain ⟨_, hA0, hfr⟩ := A0
        have h3' := hfr 3 (by unfold S229; omega)
        rw [hg_hs, if_neg (by decide), h3] at h3'
        generalize apP 3 24 0 (some 46) _ ov _ = r at hA0 h3' ⊢
        refine .next hlt ⟨r.1, ?_, ?_, ?_, ?_, ?_, ?_, ?_, ?_, by omega⟩ <;> (try simp -implicitDefEqProofs only [go_sem, eK, e1, e2, e3, h3', e20, w1])
        rw [hK, List.map_append]; exact hA0
    · have b1 : (a.home == b.home) = false := by simpa using x1
      rw [if_neg (fun h => x1 h.1)] at hK
      simp -implicitDefEqProofs only [go_sem, ir229_l0, eK, eM, e1, e2, e3, h3, e7, e20, e21, d1, q0, q1, q2, g1, g2, w1, b1, vpS NX rfl, A0.1]
      obtain ⟨_, hA0, hfr⟩ := A0
      have h3' := hfr 3 (by unfold S229; omega)
      rw [hg_hs, if_neg (by decide), h3] at h3'
      generalize apP 3 24 0 (some 46) _ ov _ = r at hA0 h3' ⊢
      refine .next hlt ⟨r.1, ?_, ?_, ?_, ?_, ?_, ?_, ?_, ?_, by omega⟩ <;> (try simp -implicitDefEqProofs only [go_sem, eK, e1, e2, e3, h3', e20, w1])
      rw [hK, List.map_append]; exact hA0
  · have hkl : i = A.length := by omega
    have d1 : decide ((i : Int) < (A.length : Int)) = false := decide_eq_false (by omega)
    simp -implicitDefEqProofs only [go_sem, ir229_l0, e20, e21, d1]
    subst hkl
    refine .exit ⟨rfl, ov, ?_, ho⟩; simp -implicitDefEqProofs only [go_sem, e7]
def blkL (c : Conf) (A B : List Plc) : List Mv := if fitB c A = true ∧ fitB c B = true then bkL c A B A.length else []
theorem FVF_Blocked (c : Conf) (hc : ConfOk c) (A B : List Plc) (hA : A.length ≤ 1000) (hB : B.length ≤ 1000) : FVF PP shF 229 [.agg (eK c), .sl (A.map eP), .sl (B.map eP)] (.sl ((blkL c A B).map eM)) := by
  refine FVF_ok (F_ok PP229 rfl ⟨by simp [ir229], by simp⟩ ?_)
  have F1 := FV_mfit c hc A hA
  have F2 := FV_mfit c hc B hB
  unfold blkL
  cases f1 : fitB c A with
  | false =>
    rw [f1] at F1
    rw [if_neg (by simp)]
    simp -implicitDefEqProofs only [go_sem, ir229, eK, vpS F1 rfl]
    simp [freshD]
  | true =>
    rw [f1] at F1
    cases f2 : fitB c B with
    | false =>
      rw [f2] at F2
      rw [if_neg (by simp)]
      simp -implicitDefEqProofs only [go_sem, ir229, eK, vpS F1 rfl, vpS F2 rfl]
      simp [freshD]
    | true =>
      rw [f2] at F2
      rw [if_pos ⟨rfl, rfl⟩]
      have h1 := (fit_iff hc A).1 f1
      have h2 := (fit_iff hc B).1 f2
      simp -implicitDefEqProofs only [go_sem, ir229, eK, vpS F1 rfl, vpS F2 rfl]
      refine (blocked_l0 c hc A B hA (by rw [h1.1, h2.1]) 0 _ ⟨_, ?_, ?_, ?_, ?_, ?_, SlO.nil (b := 7) (by unfold S229; omega), ?_, ?_, by omega⟩).mono ?_ <;> (try simp -implicitDefEqProofs only [go_sem, eK]) <;> (try rfl)
      rintro e ⟨E, H⟩ ⟨rfl, ov, e7, ho⟩
      simp only at e7 ho
      simp -implicitDefEqProofs only [go_sem, e7, ho.frz (by decide) (closed_eM _), ho.fresh (by decide) (lits_eM _)]
def S230 (b : Nat) : Prop := b = 7 ∨ b = 43 ∨ b = 79 ∨ b = 94
def L230 (c : Conf) (A B : List Plc) (i : Nat) (w : VSt) : Prop := ∃ ov : DV, gt .bad w.E 1 = .sl (A.map eP) ∧ gt .bad w.E 2 = .sl (B.map eP) ∧ gt .bad w.E 3 = .mp 3 1 0 0 ∧ hg w.H 3 = ⟨1, 0, true, [eK c]⟩ ∧ gt .bad w.E 7 = ov ∧ SlO w.H S230 3 ((bkL c A B i).map eM) ov ∧ gt .bad w.E 8 = dI (i : Nat) ∧ i ≤ A.length
theorem rblocked_l0 (c : Conf) (hc : ConfOk c) (A B : List Plc) (hA : A.length ≤ 1000) (fA : FitP c A) (fB : FitP c B) : ∀ i w, L230 c A B i w → Ok (R PP shF 0 96 (.loop ir230_l0) w) (fun e w => e = .exit 0 ∧ ∃ ov, gt .bad w.E 7 = ov ∧ SlO w.H S230 3 ((bkL c A B A.length).map eM) ov) := by
  refine Ok_up A.length (L230 c A B) fun i w hI => ?_
  obtain ⟨E, H⟩ := w
  obtain ⟨ov, e1, e2, e3, h3, e7, ho, e8, hk⟩ := hI
  simp only at e1 e2 e3 h3 e7 ho e8
  have hB : B.length = A.length := by rw [fA.1, fB.1]
  have w1 : IntKind.wrap .i64 ((i : Int) + 1) = ((i + 1 : Nat) : Int) := by rw [w64 (by omega) (by omega)]; rfl
  by_cases hlt : i < A.length
  · have d1 : decide ((i : Int) < (A.length : Int)) = true := decide_eq_true (by omega)
    have q0 : (0 : Int) ≤ (i : Int) := by omega
    have q1 : (i : Int) < (A.length : Int) := by omega
    have q2 : (i : Int) < (B.length : Int) := by omega
    have g1 : A[i]? = some (plc A i) := getD_at hlt
    have g2 : B[i]? = some (plc B i) := getD_at (by omega)
    have hl := bkL_len c A B i
    have hK : bkL c A B (i + 1) = bkL c A B i ++ bkX c A B i := rfl
    have oA := fA.2 _ (List.mem_of_getElem? g1)
    have oB := fB.2 _ (List.mem_of_getElem? g2)
    have a1 := oA.s0
    have a2 := oB.h0
    clear oA oB
    unfold bkX at hK
    generalize plc A i = a at *
    generalize plc B i = b at *
    have AP := FV_rApart c hc b.home a.sby
    rw [apartB_symm] at AP
    have ho2 : ∀ (x y : VB), SlO (hs (hs (hs (hs H 9 ⟨(hg H 9).ver + 1, 0, true, [[dI 0, dI 0]]⟩) 10 ⟨(hg H 10).ver + 1, 0, true, [[dI 0, dI 0]]⟩) 9 x) 10 y) S230 3 ((bkL c A B i).map eM) ov := fun x y =>
      (((ho.hs (by unfold S230; omega)).hs (by unfold S230; omega)).hs (by unfold S230; omega)).hs (by unfold S230; omega)
    have hH3 : ∀ (x y : VB), hg (hs (hs (hs (hs H 9 ⟨(hg H 9).ver + 1, 0, true, [[dI 0, dI 0]]⟩) 10 ⟨(hg H 10).ver + 1, 0, true, [[dI 0, dI 0]]⟩) 9 x) 10 y) 3 = ⟨1, 0, true, [eK c]⟩ := fun x y => by
      rw [hg_hs, if_neg (by decide), hg_hs, if_neg (by decide), hg_hs, if_neg (by decide), hg_hs, if_neg (by decide)]; exact h3
    have hH : ∀ n, n ≠ 9 → n ≠ 10 → ∀ (x y : VB), hg (hs (hs (hs (hs H 9 ⟨(hg H 9).ver + 1, 0, true, [[dI 0, dI 0]]⟩) 10 ⟨(hg H 10).ver + 1, 0, true, [[dI 0, dI 0]]⟩) 9 x) 10 y) n = hg H n := fun n m1 m2 x y => by
      rw [hg_hs, if_neg (Ne.symm m2), hg_hs, if_neg (Ne.symm m1), hg_hs, if_neg (Ne.symm m2), hg_hs, if_neg (Ne.symm m1)]
    have ho3 := ho2 ⟨(hg H 9).ver + 1, 0, true, [[dI a.home, dI a.sby]]⟩ ⟨(hg H 10).ver + 1, 0, true, [[dI b.home, dI b.sby]]⟩
    have hH3' := hH3 ⟨(hg H 9).ver + 1, 0, true, [[dI a.home, dI a.sby]]⟩ ⟨(hg H 10).ver + 1, 0, true, [[dI b.home, dI b.sby]]⟩
    have AA : ∀ (n d v : Nat) (m : Mv), ¬ S230 n → S230 d → _ := fun n d v m s1 s2 => (ho3.hs (d := n) (x := ⟨v, 3, true, [eM m]⟩) s1).app (bytes := 24) (base := 0) (d := d) (x := .ms n v 0 1 1) (elems_ms1 (by rw [hg_hs, if_pos rfl]) (by decide) rfl) (by rw [Nat.zero_add]; exact s2) (by simp [oneD]) (by decide) (by simp; omega) (by simp; omega)
    by_cases x1 : a.home = b.home
    · have b1 : (a.home == b.home) = true := by simpa using x1
      have b1' : (a.home != b.home) = false := by simpa using x1
      by_cases x2 : a.sby = b.sby
      · have b2 : (a.sby == b.sby) = true := by simpa using x2
        rw [if_pos ⟨x1, x2⟩, List.append_nil] at hK
        simp -implicitDefEqProofs only [go_sem, ir230_l0, e1, e2, e3, h3, e7, e8, d1, q0, q1, q2, g1, g2, w1, b1, b2]
        refine .next hlt ⟨ov, ?_, ?_, ?_, ?_, ?_, ?_, ?_, by omega⟩ <;> (try simp -implicitDefEqProofs only [go_sem, e1, e2, e3, h3, e7, w1])
        rw [hK]; exact ho3
      · have b2 : (a.sby == b.sby) = false := by simpa using x2
        rw [if_neg (fun h => x2 h.2), show nxM c i a b = ⟨i, a.home, b.sby⟩ by unfold nxM; rw [if_pos x1]] at hK
        have A0 := AA 42 43 ((hg H 42).ver + 1) ⟨i, a.home, b.sby⟩ (by unfold S230; omega) (by unfold S230; omega)
        simp -implicitDefEqProofs only [go_sem, ir230_l0, eK, eM, e1, e2, e3, h3, e7, e8, d1, q0, q1, q2, g1, g2, w1, b1, b1', b2, A0.1]
        obtain ⟨_, hA0, hfr⟩ := A0
        have h3' := hfr 3 (by unfold S230; omega)
        rw [hg_hs, if_neg (by decide), hH3'] at h3'
        generalize apP 3 24 0 (some 43) _ ov _ = r at hA0 h3' ⊢
        refine .next hlt ⟨r.1, ?_, ?_, ?_, ?_, ?_, ?_, ?_, by omega⟩ <;> (try simp -implicitDefEqProofs only [go_sem, eK, e1, e2, e3, h3', w1])
        rw [hK, List.map_append]; exact hA0
    · have b1 : (a.home == b.home) = false := by simpa using x1
      have b1' : (a.home != b.home) = true := by simpa using x1
      rw [if_neg (fun h => x1 h.1)] at hK
      have A1 := AA 78 79 ((hg H 78).ver + 1) ⟨i, a.home, -1⟩ (by unfold S230; omega) (by unfold S230; omega)
      have A2 := AA 93 94 ((hg H 93).ver + 1) ⟨i, b.home, a.sby⟩ (by unfold S230; omega) (by unfold S230; omega)
      by_cases y1 : b.home = -1
      · have f1 : decide (0 ≤ b.home) = false := decide_eq_false (by omega)
        have hz : nxC c a b = false := by unfold nxC; rw [y1]; simp
        rw [show nxM c i a b = ⟨i, b.home, a.sby⟩ by unfold nxM; rw [if_neg x1, hz, if_neg (by simp)]] at hK
        simp -implicitDefEqProofs only [go_sem, ir230_l0, eK, eM, e1, e2, e3, h3, e7, e8, d1, q0, q1, q2, g1, g2, w1, b1, b1', f1, A2.1]
        obtain ⟨_, hA0, hfr⟩ := A2
        have h3' := hfr 3 (by unfold S230; omega)
        rw [hg_hs, if_neg (by decide), hH3'] at h3'
        generalize apP 3 24 0 (some 94) _ ov _ = r at hA0 h3' ⊢
        refine .next hlt ⟨r.1, ?_, ?_, ?_, ?_, ?_, ?_, ?_, by omega⟩ <;> (try simp -implicitDefEqProofs only [go_sem, eK, e1, e2, e3, h3', w1])
        rw [hK, List.map_append]; exact hA0
      have f1 : decide (0 ≤ b.home) = true := decide_eq_true (by omega)
      have y1' : (b.home != -1) = true := by simpa using y1
      by_cases y2 : a.sby = -1
      · have f2 : decide (0 ≤ a.sby) = false := decide_eq_false (by omega)
        have hz : nxC c a b = false := by unfold nxC; rw [y2]; simp
        rw [show nxM c i a b = ⟨i, b.home, a.sby⟩ by unfold nxM; rw [if_neg x1, hz, if_neg (by simp)]] at hK
        simp -implicitDefEqProofs only [go_sem, ir230_l0, eK, eM, e1, e2, e3, h3, e7, e8, d1, q0, q1, q2, g1, g2, w1, b1, b1', f1, f2, A2.1]
        obtain ⟨_, hA0, hfr⟩ := A2
        have h3' := hfr 3 (by unfold S230; omega)
        rw [hg_hs, if_neg (by decide), hH3'] at h3'
        generalize apP 3 24 0 (some 94) _ ov _ = r at hA0 h3' ⊢
        refine .next hlt ⟨r.1, ?_, ?_, ?_, ?_, ?_, ?_, ?_, by omega⟩ <;> (try simp -implicitDefEqProofs only [go_sem, eK, e1, e2, e3, h3', w1])
        rw [hK, List.map_append]; exact hA0
      have f2 : decide (0 ≤ a.sby) = true := decide_eq_true (by omega)
      have y2' : (a.sby != -1) = true := by simpa using y2
      cases y3 : apartB c a.sby b.home with
      | true =>
        rw [y3] at AP
        have hz : nxC c a b = false := by unfold nxC; rw [y3]; simp
        rw [show nxM c i a b = ⟨i, b.home, a.sby⟩ by unfold nxM; rw [if_neg x1, hz, if_neg (by simp)]] at hK
        simp -implicitDefEqProofs only [go_sem, ir230_l0, eK, eM, e1, e2, e3, h3, e7, e8, d1, q0, q1, q2, g1, g2, w1, b1, b1', f1, f2, vpS AP rfl, A2.1]
        obtain ⟨_, hA0, hfr⟩ := A2
        have h3' := hfr 3 (by unfold S230; omega)
        rw [hg_hs, if_neg (by decide), hH3'] at h3'
        generalize apP 3 24 0 (some 94) _ ov _ = r at hA0 h3' ⊢
        refine .next hlt ⟨r.1, ?_, ?_, ?_, ?_, ?_, ?_, ?_, by omega⟩ <;> (try simp -implicitDefEqProofs only [go_sem, eK, e1, e2, e3, h3', w1])
        rw [hK, List.map_append]; exact hA0
      | false =>
        rw [y3] at AP
        have hz : nxC c a b = true := by unfold nxC; rw [y1', y2', y3]; rfl
        rw [show nxM c i a b = ⟨i, a.home, -1⟩ by unfold nxM; rw [if_neg x1, hz, if_pos rfl]] at hK
        simp -implicitDefEqProofs only [go_sem, ir230_l0, eK, eM, e1, e2, e3, h3, e7, e8, d1, q0, q1, q2, g1, g2, w1, b1, b1', f1, f2, vpS AP rfl, A1.1]
        obtain ⟨_, hA0, hfr⟩ := A1
        have h3' := hfr 3 (by unfold S230; omega)
        rw [hg_hs, if_neg (by decide), hH3'] at h3'
        generalize apP 3 24 0 (some 79) _ ov _ = r at hA0 h3' ⊢
        refine .next hlt ⟨r.1, ?_, ?_, ?_, ?_, ?_, ?_, ?_, by omega⟩ <;> (try simp -implicitDefEqProofs only [go_sem, eK, e1, e2, e3, h3', w1])
        rw [hK, List.map_append]; exact hA0
  · have hkl : i = A.length := by omega
    have d1 : decide ((i : Int) < (A.length : Int)) = false := decide_eq_false (by omega)
    simp -implicitDefEqProofs only [go_sem, ir230_l0, e1, e8, d1]
    subst hkl
    refine .exit ⟨rfl, ov, ?_, ho⟩; simp -implicitDefEqProofs only [go_sem, e7]
theorem FVF_rBlocked (c : Conf) (hc : ConfOk c) (A B : List Plc) (hA : A.length ≤ 1000) (hB : B.length ≤ 1000) : FVF PP shF 230 [.agg (eK c), .sl (A.map eP), .sl (B.map eP)] (.sl ((blkL c A B).map eM)) := by
  refine FVF_ok (F_ok PP230 rfl ⟨by simp [ir230], by simp⟩ ?_)
  have F1 := FV_mValid c hc A hA
  have F2 := FV_mValid c hc B hB
  unfold blkL
  cases f1 : fitB c A with
  | false =>
    rw [f1] at F1
    rw [if_neg (by simp)]
    simp -implicitDefEqProofs only [go_sem, ir230, eK, vpS F1 rfl]
    simp [freshD]
  | true =>
    rw [f1] at F1
    cases f2 : fitB c B with
    | false =>
      rw [f2] at F2
      rw [if_neg (by simp)]
      simp -implicitDefEqProofs only [go_sem, ir230, eK, vpS F1 rfl, vpS F2 rfl]
      simp [freshD]
    | true =>
      rw [f2] at F2
      rw [if_pos ⟨rfl, rfl⟩]
      have h1 := (fit_iff hc A).1 f1
      have h2 := (fit_iff hc B).1 f2
      simp -implicitDefEqProofs only [go_sem, ir230, eK, vpS F1 rfl, vpS F2 rfl]
      refine (rblocked_l0 c hc A B hA h1 h2 0 _ ⟨_, ?_, ?_, ?_, ?_, ?_, SlO.nil (b := 7) (by unfold S230; omega), ?_, by omega⟩).mono ?_ <;> (try simp -implicitDefEqProofs only [go_sem, eK]) <;> (try rfl)
      rintro e ⟨E, H⟩ ⟨rfl, ov, e7, ho⟩
      simp only at e7 ho
      simp -implicitDefEqProofs only [go_sem, e7, ho.frz (by decide) (closed_eM _), ho.fresh (by decide) (lits_eM _)]
theorem Between_ex (v low high : Int) (hv : I64 v) (h0 : -1000000000 ≤ low) (h1 : low ≤ high) (h2 : high ≤ 1000000000) : ∃ y, low ≤ y ∧ y ≤ high ∧ FV PP shF 15 [dI v, dI low, dI high] = some (dI y) := by
  refine ⟨_, ?_, ?_, FV_Between v low high hv h0 h1 h2⟩
  · have := Int.emod_nonneg v (b := high - low + 1) (by omega); omega
  · have := Int.emod_lt_of_pos v (b := high - low + 1) (by omega); omega
theorem shp_p {el : List DV} (h : ShpE [.i, .i] el) : ∃ a : Plc, el = eP a := by
  obtain ⟨a, b, rfl⟩ := shp_ii h
  exact ⟨⟨a, b⟩, rfl⟩
theorem plcs_of {d : DV} (h : ShpP (.s [.i, .i]) d) : ∃ ps : List Plc, d = .sl (ps.map eP) := by
  obtain ⟨L, rfl, hL⟩ := h.sl
  obtain ⟨ps, rfl⟩ := rows_of eP (fun el => shp_p) L hL
  exact ⟨ps, rfl⟩
theorem FV_awake21 : FV PP shF 225 [] = some (dB true) := FV_run 60 (by kernel_rfl)
def L228 (L : List Mv) (k : Nat) (w : VSt) : Prop := gt .bad w.E 0 = .sl (L.map eM) ∧ gt .bad w.E 1 = .sl (L.map eM) ∧ gt .bad w.E 5 = dI (k : Nat) ∧ k ≤ L.length
theorem same21_l0 (L : List Mv) (hL : L.length ≤ 1000000) : ∀ k w, L228 L k w → Ok (R PP shF 0 26 (.loop ir228_l0) w) (fun e w => e = .exit 0) := by
  refine Ok_up L.length (L228 L) fun k w hI => ?_
  obtain ⟨E, H⟩ := w
  obtain ⟨e0, e1, e5, hk⟩ := hI
  simp only at e0 e1 e5
  have w1 : IntKind.wrap .i64 ((k : Int) + 1) = ((k + 1 : Nat) : Int) := by rw [w64 (by omega) (by omega)]; rfl
  by_cases hlt : k < L.length
  · have d1 : decide ((k : Int) < (L.length : Int)) = true := decide_eq_true (by omega)
    have q0 : (0 : Int) ≤ (k : Int) := by omega
    have q1 : (k : Int) < (L.length : Int) := by omega
    have g1 := getD_at (l := L) (i := k) (d := ⟨0, 0, 0⟩) hlt
    have n1 : ∀ x : Int, (x == x) = true := fun x => by simp
    simp -implicitDefEqProofs only [go_sem, ir228_l0, e0, e1, e5, d1, q0, q1, g1, w1, n1]
    refine .next hlt ⟨?_, ?_, ?_, by omega⟩ <;> simp -implicitDefEqProofs only [go_sem, e0, e1, w1]
  · have hkl : k = L.length := by omega
    have d1 : decide ((k : Int) < (L.length : Int)) = false := decide_eq_false (by omega)
    simp -implicitDefEqProofs only [go_sem, ir228_l0, e0, e5, d1]
    exact .exit rfl
theorem FV_Same21 (L : List Mv) (hL : L.length ≤ 1000000) : FV PP shF 228 [.sl (L.map eM), .sl (L.map eM)] = some (dB true) := by
  refine FV_ok (F_ok PP228 rfl ⟨by simp [ir228], by simp⟩ ?_)
  have n1 : ((L.length : Int) != (L.length : Int)) = false := by simp
  simp -implicitDefEqProofs only [go_sem, ir228, n1]
  refine (same21_l0 L hL 0 _ ⟨?_, ?_, ?_, by omega⟩).mono ?_ <;> (try simp -implicitDefEqProofs only [go_sem, ])
  rintro e ⟨E, H⟩ rfl
  simp -implicitDefEqProofs only [go_sem, ]
theorem mv_of {q : List DV} (h : Shps [.c .i, .c .i, .c .i] q) : ∃ m : Mv, q = eM m ∧ I64 m.t ∧ I64 m.h ∧ I64 m.s := by
  obtain ⟨_, _, rfl, p1, g1⟩ := h.cons
  obtain ⟨a, ia, rfl⟩ := p1.int
  obtain ⟨_, _, rfl, p2, g2⟩ := g1.cons
  obtain ⟨b, ib, rfl⟩ := p2.int
  obtain ⟨_, _, rfl, p3, g3⟩ := g2.cons
  obtain ⟨c, ic, rfl⟩ := p3.int
  obtain rfl := g3.nil
  exact ⟨⟨a, b, c⟩, rfl, ia, ib, ic⟩
theorem blkL_len (c : Conf) (A B : List Plc) : (blkL c A B).length ≤ A.length := by
  unfold blkL; split
  · exact bkL_len c A B _
  · simp
theorem law_MovesFit (l : List Int) (hl : I64s l) (m : List Int) (hm : I64s m) (n : List Int) (hn : I64s n) (pl : DV) (hpl : ShpP (.s [.i, .i]) pl) (q : List DV) (hq : Shps [.c .i, .c .i, .c .i] q) : OkF (F PP shF 220 [dL l, dL m, dL n, pl, .agg q] [] 0) (fun d _ => d = dB true) := by
  obtain ⟨rs, rfl⟩ := plcs_of hpl
  obtain ⟨mv, rfl, i1, i2, i3⟩ := mv_of hq
  refine F_ok PP220 rfl ⟨by simp [ir220], by simp⟩ ?_
  have L := FV_Light l
  have L2 := FV_Light m
  have L3 := FV_Light n
  by_cases hlen : l.length ≤ 200
  case neg => rw [decide_eq_false hlen] at L; simp -implicitDefEqProofs only [go_sem, ir220, vpS L rfl, vpS FV_awake21 rfl]
  rw [decide_eq_true hlen] at L
  by_cases hlen2 : m.length ≤ 200
  case neg => rw [decide_eq_false hlen2] at L2; simp -implicitDefEqProofs only [go_sem, ir220, vpS L rfl, vpS L2 rfl, vpS FV_awake21 rfl]
  rw [decide_eq_true hlen2] at L2
  by_cases hlen3 : n.length ≤ 200
  case neg => rw [decide_eq_false hlen3] at L3; simp -implicitDefEqProofs only [go_sem, ir220, vpS L rfl, vpS L2 rfl, vpS L3 rfl, vpS FV_awake21 rfl]
  rw [decide_eq_true hlen3] at L3
  by_cases hlen4 : (rs.length : Int) > 40
  · have f := decide_eq_true hlen4
    have f' : decide ((40 : Int) < (rs.length : Int)) = true := f
    simp -implicitDefEqProofs only [go_sem, ir220, vpS L rfl, vpS L2 rfl, vpS L3 rfl, f, f', vpS FV_awake21 rfl]
  have f4' : decide ((40 : Int) < (rs.length : Int)) = false := decide_eq_false hlen4
  obtain ⟨c, hc, hP⟩ := FV_Config l hl
  obtain ⟨ps, hps1, hps2, hQ⟩ := FVF_Places m hm c hc
  obtain ⟨qs, hqs1, hqs2, hQ2⟩ := FVF_Places n hn c hc
  have ht := hc.t1
  obtain ⟨x, lx, ux, B1⟩ := Between_ex mv.t (-1) 5 i1 (by omega) (by omega) (by omega)
  obtain ⟨y, ly, uy, B2⟩ := Between_ex mv.h (-1) 7 i2 (by omega) (by omega) (by omega)
  obtain ⟨z, lz, uz, B3⟩ := Between_ex mv.s (-1) 7 i3 (by omega) (by omega) (by omega)
  have FA := FV_Fits c hc ps (by omega) mv
  have FA' := FV_rFits c hc ps (by omega) mv
  have FB := FV_Fits c hc ps (by omega) ⟨x, y, z⟩
  have FB' := FV_rFits c hc ps (by omega) ⟨x, y, z⟩
  have FC := FV_Fits c hc rs (by omega) ⟨x, y, z⟩
  have FC' := FV_rFits c hc rs (by omega) ⟨x, y, z⟩
  have K1 := FVF_Blocked c hc ps qs (by omega) (by omega)
  have K1' := FVF_rBlocked c hc ps qs (by omega) (by omega)
  have K2 := FVF_Blocked c hc rs qs (by omega) (by omega)
  have K2' := FVF_rBlocked c hc rs qs (by omega) (by omega)
  have K3 := FVF_Blocked c hc ps rs (by omega) (by omega)
  have K3' := FVF_rBlocked c hc ps rs (by omega) (by omega)
  have S1 := FV_Same21 (blkL c ps qs) (by have := blkL_len c ps qs; omega)
  have S2 := FV_Same21 (blkL c rs qs) (by have := blkL_len c rs qs; omega)
  have S3 := FV_Same21 (blkL c ps rs) (by have := blkL_len c ps rs; omega)
  have nb : ∀ b : Bool, (b == b) = true := fun b => by simp
  by_cases x0 : 0 ≤ x
  case neg =>
    have f0 : decide (0 ≤ x) = false := decide_eq_false x0
    simp -implicitDefEqProofs only [go_sem, ir220, vpS L rfl, vpS L2 rfl, vpS L3 rfl, f4', vpL hP rfl, eK, eM, vpF hQ rfl, vpF hQ2 rfl, vpS B1 rfl, vpS B2 rfl, vpS B3 rfl, vpS FA rfl, vpS FA' rfl, vpS FB rfl, vpS FB' rfl, vpS FC rfl, vpS FC' rfl, nb, f0, vpS FV_awake21 rfl, vpF K1 rfl, vpF K1' rfl, vpF K2 rfl, vpF K2' rfl, vpF K3 rfl, vpF K3' rfl, vpS S1 rfl, vpS S2 rfl, vpS S3 rfl]
  have f0 : decide (0 ≤ x) = true := decide_eq_true x0
  by_cases x1 : x < (ps.length : Int)
  case neg =>
    have f1 : decide (x < (ps.length : Int)) = false := decide_eq_false x1
    simp -implicitDefEqProofs only [go_sem, ir220, vpS L rfl, vpS L2 rfl, vpS L3 rfl, f4', vpL hP rfl, eK, eM, vpF hQ rfl, vpF hQ2 rfl, vpS B1 rfl, vpS B2 rfl, vpS B3 rfl, vpS FA rfl, vpS FA' rfl, vpS FB rfl, vpS FB' rfl, vpS FC rfl, vpS FC' rfl, nb, f0, f1, vpS FV_awake21 rfl, vpF K1 rfl, vpF K1' rfl, vpF K2 rfl, vpF K2' rfl, vpF K3 rfl, vpF K3' rfl, vpS S1 rfl, vpS S2 rfl, vpS S3 rfl]
  have f1 : decide (x < (ps.length : Int)) = true := decide_eq_true x1
  obtain ⟨k, rfl⟩ : ∃ k : Nat, x = k := ⟨x.toNat, by omega⟩
  have g1 : ps[k]? = some (plc ps k) := getD_at (by omega)
  have FD := FV_Fits c hc ps (by omega) ⟨k, y, (plc ps k).sby⟩
  have FD' := FV_rFits c hc ps (by omega) ⟨k, y, (plc ps k).sby⟩
  simp -implicitDefEqProofs only [go_sem, ir220, vpS L rfl, vpS L2 rfl, vpS L3 rfl, f4', vpL hP rfl, eK, eM, vpF hQ rfl, vpF hQ2 rfl, vpS B1 rfl, vpS B2 rfl, vpS B3 rfl, vpS FA rfl, vpS FA' rfl, vpS FB rfl, vpS FB' rfl, vpS FC rfl, vpS FC' rfl, nb, f0, f1, x0, x1, g1, vpS FD rfl, vpS FD' rfl, vpS FV_awake21 rfl, vpF K1 rfl, vpF K1' rfl, vpF K2 rfl, vpF K2' rfl, vpF K3 rfl, vpF K3' rfl, vpS S1 rfl, vpS S2 rfl, vpS S3 rfl]
end Go.Proofs.Cp
