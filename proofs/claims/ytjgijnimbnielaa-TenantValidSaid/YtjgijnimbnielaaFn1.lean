/- What the functions answer (part 1). -/
import Derived.Test.YtjgijnimbnielaaFn0
set_option linter.unusedSimpArgs false
set_option linter.unusedVariables false
set_option maxRecDepth 100000
namespace Go.Proofs.Cp
open Go
theorem FV_rValid (c : Conf) (hc : Lens c) : FV PP shF 31 [.agg (eK c)] = some (dI (validN c)) := by
  refine FV_ok (F_ok PP31 rfl ⟨by simp [ir31], by simp⟩ ?_)
  have B1 := FV_limits c
  unfold validN
  cases hl : limB c with
  | false =>
    rw [hl] at B1
    simp -implicitDefEqProofs only [go_sem, ↓reduceIte, Nat.reduceEqDiff, Nat.reduceAdd, Nat.reduceSub, Nat.reduceMul, Nat.reduceLeDiff, Nat.reduceLT, Nat.reduceBEq, Nat.reduceBNe, reduceCtorEq, beq_self_eq_true, Int.toNat_natCast, List.length_map, List.length_nil, Int.reduceToNat, Int.reduceAdd, Int.reduceSub, Int.reduceMul, Int.reduceLT, Int.reduceLE, Int.reduceEq, Int.reduceBEq, Int.reduceNeg, decide_true, decide_false, Nat.le_max_left, Nat.le_max_right, ne_eq, not_true_eq_false, not_false_eq_true, Int.natCast_zero, gt_iff_lt, ge_iff_le, Int.reduceGT, Int.reduceGE, Bool.false_and, Bool.and_false, Bool.true_and, Bool.and_true, ir31, eK, vpS B1 rfl]
  | true =>
    rw [hl] at B1
    obtain ⟨hr, hv⟩ := limB_facts hl
    have Z1 := FV_rzones c hc.z c.reps hc.p
    have Z2 := FV_rzones c hc.z c.obs hc.o
    have T1 := FV_in c.blast 1 16
    have T2 := FV_in c.lease 1 1000
    have T3 := FV_in c.bake 0 10000
    have he : ((c.reps.length : Int).tmod 2 == 1) = !evenB c := by
      unfold evenB
      rw [Int.tmod_eq_emod_of_nonneg (by omega), Bool.eq_iff_iff]
      simp only [beq_iff_eq, Bool.not_eq_true', beq_eq_false_iff_ne, ne_eq]
      omega
    have g0 := getD_at (l := c.vers) (i := 0) (d := ⟨0, 0⟩) (by omega)
    have q0 : (0 : Int) < (c.vers.length : Int) := by omega
    have hf : ((c.vers.getD 0 ⟨0, 0⟩).low == 0) = firstB c := rfl
    have hpre : preB c = (!evenB c && zonesB c c.reps && zonesB c c.obs && inB c.blast 1 16 && inB c.lease 1 1000 && inB c.bake 0 10000 && firstB c) := rfl
    rw [← pre_ok c]
    generalize preB c = pb at *
    generalize evenB c = ev at *
    generalize zonesB c c.reps = z1 at *
    generalize zonesB c c.obs = z2 at *
    generalize inB c.blast 1 16 = r1 at *
    generalize inB c.lease 1 1000 = r2 at *
    generalize inB c.bake 0 10000 = r3 at *
    generalize firstB c = fb at *
    cases ev with
    | true =>
      have hpb : pb = false := by rw [hpre]; rfl
      simp -implicitDefEqProofs only [go_sem, ↓reduceIte, Nat.reduceEqDiff, Nat.reduceAdd, Nat.reduceSub, Nat.reduceMul, Nat.reduceLeDiff, Nat.reduceLT, Nat.reduceBEq, Nat.reduceBNe, reduceCtorEq, beq_self_eq_true, Int.toNat_natCast, List.length_map, List.length_nil, Int.reduceToNat, Int.reduceAdd, Int.reduceSub, Int.reduceMul, Int.reduceLT, Int.reduceLE, Int.reduceEq, Int.reduceBEq, Int.reduceNeg, decide_true, decide_false, Nat.le_max_left, Nat.le_max_right, ne_eq, not_true_eq_false, not_false_eq_true, Int.natCast_zero, gt_iff_lt, ge_iff_le, Int.reduceGT, Int.reduceGE, Bool.false_and, Bool.and_false, Bool.true_and, Bool.and_true, ir31, eK, vpS B1 rfl, he, g0, q0, hf, Bool.not_true]
      refine (rvalid_l0 c hc hr pb 0 _ (by refine ⟨⟨?_, ?_⟩, ?_, ?_, by omega⟩ <;> simp -implicitDefEqProofs only [go_sem, ↓reduceIte, Nat.reduceEqDiff, Nat.reduceAdd, Nat.reduceSub, Nat.reduceMul, Nat.reduceLeDiff, Nat.reduceLT, Nat.reduceBEq, Nat.reduceBNe, reduceCtorEq, beq_self_eq_true, Int.toNat_natCast, List.length_map, List.length_nil, Int.reduceToNat, Int.reduceAdd, Int.reduceSub, Int.reduceMul, Int.reduceLT, Int.reduceLE, Int.reduceEq, Int.reduceBEq, Int.reduceNeg, decide_true, decide_false, Nat.le_max_left, Nat.le_max_right, ne_eq, not_true_eq_false, not_false_eq_true, Int.natCast_zero, gt_iff_lt, ge_iff_le, Int.reduceGT, Int.reduceGE, Bool.false_and, Bool.and_false, Bool.true_and, Bool.and_true, eK, allN, hpb])).mono ?_
      rintro e ⟨E, H⟩ ⟨rfl, ⟨e1, h1⟩, e3⟩
      simp only at e1 h1 e3
      simp -implicitDefEqProofs only [go_sem, ↓reduceIte, Nat.reduceEqDiff, Nat.reduceAdd, Nat.reduceSub, Nat.reduceMul, Nat.reduceLeDiff, Nat.reduceLT, Nat.reduceBEq, Nat.reduceBNe, reduceCtorEq, beq_self_eq_true, Int.toNat_natCast, List.length_map, List.length_nil, Int.reduceToNat, Int.reduceAdd, Int.reduceSub, Int.reduceMul, Int.reduceLT, Int.reduceLE, Int.reduceEq, Int.reduceBEq, Int.reduceNeg, decide_true, decide_false, Nat.le_max_left, Nat.le_max_right, ne_eq, not_true_eq_false, not_false_eq_true, Int.natCast_zero, gt_iff_lt, ge_iff_le, Int.reduceGT, Int.reduceGE, Bool.false_and, Bool.and_false, Bool.true_and, Bool.and_true, e1, h1, e3]
      refine (rvalid_l1 c hc (pb && allN (qZ c) c.zones.length) 0 _ (by refine ⟨⟨?_, ?_⟩, ?_, ?_, by omega⟩ <;> simp -implicitDefEqProofs only [go_sem, ↓reduceIte, Nat.reduceEqDiff, Nat.reduceAdd, Nat.reduceSub, Nat.reduceMul, Nat.reduceLeDiff, Nat.reduceLT, Nat.reduceBEq, Nat.reduceBNe, reduceCtorEq, beq_self_eq_true, Int.toNat_natCast, List.length_map, List.length_nil, Int.reduceToNat, Int.reduceAdd, Int.reduceSub, Int.reduceMul, Int.reduceLT, Int.reduceLE, Int.reduceEq, Int.reduceBEq, Int.reduceNeg, decide_true, decide_false, Nat.le_max_left, Nat.le_max_right, ne_eq, not_true_eq_false, not_false_eq_true, Int.natCast_zero, gt_iff_lt, ge_iff_le, Int.reduceGT, Int.reduceGE, Bool.false_and, Bool.and_false, Bool.true_and, Bool.and_true, e1, h1, e3, allN])).mono ?_
      rintro e ⟨E, H⟩ ⟨rfl, ⟨e1, h1⟩, e3⟩
      simp only at e1 h1 e3
      simp -implicitDefEqProofs only [go_sem, ↓reduceIte, Nat.reduceEqDiff, Nat.reduceAdd, Nat.reduceSub, Nat.reduceMul, Nat.reduceLeDiff, Nat.reduceLT, Nat.reduceBEq, Nat.reduceBNe, reduceCtorEq, beq_self_eq_true, Int.toNat_natCast, List.length_map, List.length_nil, Int.reduceToNat, Int.reduceAdd, Int.reduceSub, Int.reduceMul, Int.reduceLT, Int.reduceLE, Int.reduceEq, Int.reduceBEq, Int.reduceNeg, decide_true, decide_false, Nat.le_max_left, Nat.le_max_right, ne_eq, not_true_eq_false, not_false_eq_true, Int.natCast_zero, gt_iff_lt, ge_iff_le, Int.reduceGT, Int.reduceGE, Bool.false_and, Bool.and_false, Bool.true_and, Bool.and_true, e1, h1, e3]
      refine (rvalid_l2 c hc (pb && allN (qZ c) c.zones.length && allN (qC c) c.cells.length) 0 _ (by refine ⟨⟨?_, ?_⟩, ?_, ?_, by omega⟩ <;> simp -implicitDefEqProofs only [go_sem, ↓reduceIte, Nat.reduceEqDiff, Nat.reduceAdd, Nat.reduceSub, Nat.reduceMul, Nat.reduceLeDiff, Nat.reduceLT, Nat.reduceBEq, Nat.reduceBNe, reduceCtorEq, beq_self_eq_true, Int.toNat_natCast, List.length_map, List.length_nil, Int.reduceToNat, Int.reduceAdd, Int.reduceSub, Int.reduceMul, Int.reduceLT, Int.reduceLE, Int.reduceEq, Int.reduceBEq, Int.reduceNeg, decide_true, decide_false, Nat.le_max_left, Nat.le_max_right, ne_eq, not_true_eq_false, not_false_eq_true, Int.natCast_zero, gt_iff_lt, ge_iff_le, Int.reduceGT, Int.reduceGE, Bool.false_and, Bool.and_false, Bool.true_and, Bool.and_true, e1, h1, e3, allN])).mono ?_
      rintro e ⟨E, H⟩ ⟨rfl, e3⟩
      simp only at e3
      cases hx : (pb && allN (qZ c) c.zones.length && allN (qC c) c.cells.length && allN (qV c) c.vers.length) <;> (rw [hx] at e3; simp -implicitDefEqProofs only [go_sem, ↓reduceIte, Nat.reduceEqDiff, Nat.reduceAdd, Nat.reduceSub, Nat.reduceMul, Nat.reduceLeDiff, Nat.reduceLT, Nat.reduceBEq, Nat.reduceBNe, reduceCtorEq, beq_self_eq_true, Int.toNat_natCast, List.length_map, List.length_nil, Int.reduceToNat, Int.reduceAdd, Int.reduceSub, Int.reduceMul, Int.reduceLT, Int.reduceLE, Int.reduceEq, Int.reduceBEq, Int.reduceNeg, decide_true, decide_false, Nat.le_max_left, Nat.le_max_right, ne_eq, not_true_eq_false, not_false_eq_true, Int.natCast_zero, gt_iff_lt, ge_iff_le, Int.reduceGT, Int.reduceGE, Bool.false_and, Bool.and_false, Bool.true_and, Bool.and_true, e3])
    | false =>
      cases z1 with
      | false =>
        have hpb : pb = false := by rw [hpre]; simp
        simp -implicitDefEqProofs only [go_sem, ↓reduceIte, Nat.reduceEqDiff, Nat.reduceAdd, Nat.reduceSub, Nat.reduceMul, Nat.reduceLeDiff, Nat.reduceLT, Nat.reduceBEq, Nat.reduceBNe, reduceCtorEq, beq_self_eq_true, Int.toNat_natCast, List.length_map, List.length_nil, Int.reduceToNat, Int.reduceAdd, Int.reduceSub, Int.reduceMul, Int.reduceLT, Int.reduceLE, Int.reduceEq, Int.reduceBEq, Int.reduceNeg, decide_true, decide_false, Nat.le_max_left, Nat.le_max_right, ne_eq, not_true_eq_false, not_false_eq_true, Int.natCast_zero, gt_iff_lt, ge_iff_le, Int.reduceGT, Int.reduceGE, Bool.false_and, Bool.and_false, Bool.true_and, Bool.and_true, ir31, eK, vpS B1 rfl, he, g0, q0, hf, Bool.not_false, vpS Z1 rfl]
        refine (rvalid_l0 c hc hr pb 0 _ (by refine ⟨⟨?_, ?_⟩, ?_, ?_, by omega⟩ <;> simp -implicitDefEqProofs only [go_sem, ↓reduceIte, Nat.reduceEqDiff, Nat.reduceAdd, Nat.reduceSub, Nat.reduceMul, Nat.reduceLeDiff, Nat.reduceLT, Nat.reduceBEq, Nat.reduceBNe, reduceCtorEq, beq_self_eq_true, Int.toNat_natCast, List.length_map, List.length_nil, Int.reduceToNat, Int.reduceAdd, Int.reduceSub, Int.reduceMul, Int.reduceLT, Int.reduceLE, Int.reduceEq, Int.reduceBEq, Int.reduceNeg, decide_true, decide_false, Nat.le_max_left, Nat.le_max_right, ne_eq, not_true_eq_false, not_false_eq_true, Int.natCast_zero, gt_iff_lt, ge_iff_le, Int.reduceGT, Int.reduceGE, Bool.false_and, Bool.and_false, Bool.true_and, Bool.and_true, eK, allN, hpb])).mono ?_
        rintro e ⟨E, H⟩ ⟨rfl, ⟨e1, h1⟩, e3⟩
        simp only at e1 h1 e3
        simp -implicitDefEqProofs only [go_sem, ↓reduceIte, Nat.reduceEqDiff, Nat.reduceAdd, Nat.reduceSub, Nat.reduceMul, Nat.reduceLeDiff, Nat.reduceLT, Nat.reduceBEq, Nat.reduceBNe, reduceCtorEq, beq_self_eq_true, Int.toNat_natCast, List.length_map, List.length_nil, Int.reduceToNat, Int.reduceAdd, Int.reduceSub, Int.reduceMul, Int.reduceLT, Int.reduceLE, Int.reduceEq, Int.reduceBEq, Int.reduceNeg, decide_true, decide_false, Nat.le_max_left, Nat.le_max_right, ne_eq, not_true_eq_false, not_false_eq_true, Int.natCast_zero, gt_iff_lt, ge_iff_le, Int.reduceGT, Int.reduceGE, Bool.false_and, Bool.and_false, Bool.true_and, Bool.and_true, e1, h1, e3]
        refine (rvalid_l1 c hc (pb && allN (qZ c) c.zones.length) 0 _ (by refine ⟨⟨?_, ?_⟩, ?_, ?_, by omega⟩ <;> simp -implicitDefEqProofs only [go_sem, ↓reduceIte, Nat.reduceEqDiff, Nat.reduceAdd, Nat.reduceSub, Nat.reduceMul, Nat.reduceLeDiff, Nat.reduceLT, Nat.reduceBEq, Nat.reduceBNe, reduceCtorEq, beq_self_eq_true, Int.toNat_natCast, List.length_map, List.length_nil, Int.reduceToNat, Int.reduceAdd, Int.reduceSub, Int.reduceMul, Int.reduceLT, Int.reduceLE, Int.reduceEq, Int.reduceBEq, Int.reduceNeg, decide_true, decide_false, Nat.le_max_left, Nat.le_max_right, ne_eq, not_true_eq_false, not_false_eq_true, Int.natCast_zero, gt_iff_lt, ge_iff_le, Int.reduceGT, Int.reduceGE, Bool.false_and, Bool.and_false, Bool.true_and, Bool.and_true, e1, h1, e3, allN])).mono ?_
        rintro e ⟨E, H⟩ ⟨rfl, ⟨e1, h1⟩, e3⟩
        simp only at e1 h1 e3
        simp -implicitDefEqProofs only [go_sem, ↓reduceIte, Nat.reduceEqDiff, Nat.reduceAdd, Nat.reduceSub, Nat.reduceMul, Nat.reduceLeDiff, Nat.reduceLT, Nat.reduceBEq, Nat.reduceBNe, reduceCtorEq, beq_self_eq_true, Int.toNat_natCast, List.length_map, List.length_nil, Int.reduceToNat, Int.reduceAdd, Int.reduceSub, Int.reduceMul, Int.reduceLT, Int.reduceLE, Int.reduceEq, Int.reduceBEq, Int.reduceNeg, decide_true, decide_false, Nat.le_max_left, Nat.le_max_right, ne_eq, not_true_eq_false, not_false_eq_true, Int.natCast_zero, gt_iff_lt, ge_iff_le, Int.reduceGT, Int.reduceGE, Bool.false_and, Bool.and_false, Bool.true_and, Bool.and_true, e1, h1, e3]
        refine (rvalid_l2 c hc (pb && allN (qZ c) c.zones.length && allN (qC c) c.cells.length) 0 _ (by refine ⟨⟨?_, ?_⟩, ?_, ?_, by omega⟩ <;> simp -implicitDefEqProofs only [go_sem, ↓reduceIte, Nat.reduceEqDiff, Nat.reduceAdd, Nat.reduceSub, Nat.reduceMul, Nat.reduceLeDiff, Nat.reduceLT, Nat.reduceBEq, Nat.reduceBNe, reduceCtorEq, beq_self_eq_true, Int.toNat_natCast, List.length_map, List.length_nil, Int.reduceToNat, Int.reduceAdd, Int.reduceSub, Int.reduceMul, Int.reduceLT, Int.reduceLE, Int.reduceEq, Int.reduceBEq, Int.reduceNeg, decide_true, decide_false, Nat.le_max_left, Nat.le_max_right, ne_eq, not_true_eq_false, not_false_eq_true, Int.natCast_zero, gt_iff_lt, ge_iff_le, Int.reduceGT, Int.reduceGE, Bool.false_and, Bool.and_false, Bool.true_and, Bool.and_true, e1, h1, e3, allN])).mono ?_
        rintro e ⟨E, H⟩ ⟨rfl, e3⟩
        simp only at e3
        cases hx : (pb && allN (qZ c) c.zones.length && allN (qC c) c.cells.length && allN (qV c) c.vers.length) <;> (rw [hx] at e3; simp -implicitDefEqProofs only [go_sem, ↓reduceIte, Nat.reduceEqDiff, Nat.reduceAdd, Nat.reduceSub, Nat.reduceMul, Nat.reduceLeDiff, Nat.reduceLT, Nat.reduceBEq, Nat.reduceBNe, reduceCtorEq, beq_self_eq_true, Int.toNat_natCast, List.length_map, List.length_nil, Int.reduceToNat, Int.reduceAdd, Int.reduceSub, Int.reduceMul, Int.reduceLT, Int.reduceLE, Int.reduceEq, Int.reduceBEq, Int.reduceNeg, decide_true, decide_false, Nat.le_max_left, Nat.le_max_right, ne_eq, not_true_eq_false, not_false_eq_true, Int.natCast_zero, gt_iff_lt, ge_iff_le, Int.reduceGT, Int.reduceGE, Bool.false_and, Bool.and_false, Bool.true_and, Bool.and_true, e3])
      | true =>
        cases z2 with
        | false =>
          have hpb : pb = false := by rw [hpre]; simp
          simp -implicitDefEqProofs only [go_sem, ↓reduceIte, Nat.reduceEqDiff, Nat.reduceAdd, Nat.reduceSub, Nat.reduceMul, Nat.reduceLeDiff, Nat.reduceLT, Nat.reduceBEq, Nat.reduceBNe, reduceCtorEq, beq_self_eq_true, Int.toNat_natCast, List.length_map, List.length_nil, Int.reduceToNat, Int.reduceAdd, Int.reduceSub, Int.reduceMul, Int.reduceLT, Int.reduceLE, Int.reduceEq, Int.reduceBEq, Int.reduceNeg, decide_true, decide_false, Nat.le_max_left, Nat.le_max_right, ne_eq, not_true_eq_false, not_false_eq_true, Int.natCast_zero, gt_iff_lt, ge_iff_le, Int.reduceGT, Int.reduceGE, Bool.false_and, Bool.and_false, Bool.true_and, Bool.and_true, ir31, eK, vpS B1 rfl, he, g0, q0, hf, Bool.not_false, vpS Z1 rfl, vpS Z2 rfl]
          refine (rvalid_l0 c hc hr pb 0 _ (by refine ⟨⟨?_, ?_⟩, ?_, ?_, by omega⟩ <;> simp -implicitDefEqProofs only [go_sem, ↓reduceIte, Nat.reduceEqDiff, Nat.reduceAdd, Nat.reduceSub, Nat.reduceMul, Nat.reduceLeDiff, Nat.reduceLT, Nat.reduceBEq, Nat.reduceBNe, reduceCtorEq, beq_self_eq_true, Int.toNat_natCast, List.length_map, List.length_nil, Int.reduceToNat, Int.reduceAdd, Int.reduceSub, Int.reduceMul, Int.reduceLT, Int.reduceLE, Int.reduceEq, Int.reduceBEq, Int.reduceNeg, decide_true, decide_false, Nat.le_max_left, Nat.le_max_right, ne_eq, not_true_eq_false, not_false_eq_true, Int.natCast_zero, gt_iff_lt, ge_iff_le, Int.reduceGT, Int.reduceGE, Bool.false_and, Bool.and_false, Bool.true_and, Bool.and_true, eK, allN, hpb])).mono ?_
          rintro e ⟨E, H⟩ ⟨rfl, ⟨e1, h1⟩, e3⟩
          simp only at e1 h1 e3
          simp -implicitDefEqProofs only [go_sem, ↓reduceIte, Nat.reduceEqDiff, Nat.reduceAdd, Nat.reduceSub, Nat.reduceMul, Nat.reduceLeDiff, Nat.reduceLT, Nat.reduceBEq, Nat.reduceBNe, reduceCtorEq, beq_self_eq_true, Int.toNat_natCast, List.length_map, List.length_nil, Int.reduceToNat, Int.reduceAdd, Int.reduceSub, Int.reduceMul, Int.reduceLT, Int.reduceLE, Int.reduceEq, Int.reduceBEq, Int.reduceNeg, decide_true, decide_false, Nat.le_max_left, Nat.le_max_right, ne_eq, not_true_eq_false, not_false_eq_true, Int.natCast_zero, gt_iff_lt, ge_iff_le, Int.reduceGT, Int.reduceGE, Bool.false_and, Bool.and_false, Bool.true_and, Bool.and_true, e1, h1, e3]
          refine (rvalid_l1 c hc (pb && allN (qZ c) c.zones.length) 0 _ (by refine ⟨⟨?_, ?_⟩, ?_, ?_, by omega⟩ <;> simp -implicitDefEqProofs only [go_sem, ↓reduceIte, Nat.reduceEqDiff, Nat.reduceAdd, Nat.reduceSub, Nat.reduceMul, Nat.reduceLeDiff, Nat.reduceLT, Nat.reduceBEq, Nat.reduceBNe, reduceCtorEq, beq_self_eq_true, Int.toNat_natCast, List.length_map, List.length_nil, Int.reduceToNat, Int.reduceAdd, Int.reduceSub, Int.reduceMul, Int.reduceLT, Int.reduceLE, Int.reduceEq, Int.reduceBEq, Int.reduceNeg, decide_true, decide_false, Nat.le_max_left, Nat.le_max_right, ne_eq, not_true_eq_false, not_false_eq_true, Int.natCast_zero, gt_iff_lt, ge_iff_le, Int.reduceGT, Int.reduceGE, Bool.false_and, Bool.and_false, Bool.true_and, Bool.and_true, e1, h1, e3, allN])).mono ?_
          rintro e ⟨E, H⟩ ⟨rfl, ⟨e1, h1⟩, e3⟩
          simp only at e1 h1 e3
          simp -implicitDefEqProofs only [go_sem, ↓reduceIte, Nat.reduceEqDiff, Nat.reduceAdd, Nat.reduceSub, Nat.reduceMul, Nat.reduceLeDiff, Nat.reduceLT, Nat.reduceBEq, Nat.reduceBNe, reduceCtorEq, beq_self_eq_true, Int.toNat_natCast, List.length_map, List.length_nil, Int.reduceToNat, Int.reduceAdd, Int.reduceSub, Int.reduceMul, Int.reduceLT, Int.reduceLE, Int.reduceEq, Int.reduceBEq, Int.reduceNeg, decide_true, decide_false, Nat.le_max_left, Nat.le_max_right, ne_eq, not_true_eq_false, not_false_eq_true, Int.natCast_zero, gt_iff_lt, ge_iff_le, Int.reduceGT, Int.reduceGE, Bool.false_and, Bool.and_false, Bool.true_and, Bool.and_true, e1, h1, e3]
          refine (rvalid_l2 c hc (pb && allN (qZ c) c.zones.length && allN (qC c) c.cells.length) 0 _ (by refine ⟨⟨?_, ?_⟩, ?_, ?_, by omega⟩ <;> simp -implicitDefEqProofs only [go_sem, ↓reduceIte, Nat.reduceEqDiff, Nat.reduceAdd, Nat.reduceSub, Nat.reduceMul, Nat.reduceLeDiff, Nat.reduceLT, Nat.reduceBEq, Nat.reduceBNe, reduceCtorEq, beq_self_eq_true, Int.toNat_natCast, List.length_map, List.length_nil, Int.reduceToNat, Int.reduceAdd, Int.reduceSub, Int.reduceMul, Int.reduceLT, Int.reduceLE, Int.reduceEq, Int.reduceBEq, Int.reduceNeg, decide_true, decide_false, Nat.le_max_left, Nat.le_max_right, ne_eq, not_true_eq_false, not_false_eq_true, Int.natCast_zero, gt_iff_lt, ge_iff_le, Int.reduceGT, Int.reduceGE, Bool.false_and, Bool.and_false, Bool.true_and, Bool.and_true, e1, h1, e3, allN])).mono ?_
          rintro e ⟨E, H⟩ ⟨rfl, e3⟩
          simp only at e3
          cases hx : (pb && allN (qZ c) c.zones.length && allN (qC c) c.cells.length && allN (qV c) c.vers.length) <;> (rw [hx] at e3; simp -implicitDefEqProofs only [go_sem, ↓reduceIte, Nat.reduceEqDiff, Nat.reduceAdd, Nat.reduceSub, Nat.reduceMul, Nat.reduceLeDiff, Nat.reduceLT, Nat.reduceBEq, Nat.reduceBNe, reduceCtorEq, beq_self_eq_true, Int.toNat_natCast, List.length_map, List.length_nil, Int.reduceToNat, Int.reduceAdd, Int.reduceSub, Int.reduceMul, Int.reduceLT, Int.reduceLE, Int.reduceEq, Int.reduceBEq, Int.reduceNeg, decide_true, decide_false, Nat.le_max_left, Nat.le_max_right, ne_eq, not_true_eq_false, not_false_eq_true, Int.natCast_zero, gt_iff_lt, ge_iff_le, Int.reduceGT, Int.reduceGE, Bool.false_and, Bool.and_false, Bool.true_and, Bool.and_true, e3])
        | true =>
          cases r1 with
          | false =>
            have hpb : pb = false := by rw [hpre]; simp
            simp -implicitDefEqProofs only [go_sem, ↓reduceIte, Nat.reduceEqDiff, Nat.reduceAdd, Nat.reduceSub, Nat.reduceMul, Nat.reduceLeDiff, Nat.reduceLT, Nat.reduceBEq, Nat.reduceBNe, reduceCtorEq, beq_self_eq_true, Int.toNat_natCast, List.length_map, List.length_nil, Int.reduceToNat, Int.reduceAdd, Int.reduceSub, Int.reduceMul, Int.reduceLT, Int.reduceLE, Int.reduceEq, Int.reduceBEq, Int.reduceNeg, decide_true, decide_false, Nat.le_max_left, Nat.le_max_right, ne_eq, not_true_eq_false, not_false_eq_true, Int.natCast_zero, gt_iff_lt, ge_iff_le, Int.reduceGT, Int.reduceGE, Bool.false_and, Bool.and_false, Bool.true_and, Bool.and_true, ir31, eK, vpS B1 rfl, he, g0, q0, hf, Bool.not_false, vpS Z1 rfl, vpS Z2 rfl, vpS T1 rfl]
            refine (rvalid_l0 c hc hr pb 0 _ (by refine ⟨⟨?_, ?_⟩, ?_, ?_, by omega⟩ <;> simp -implicitDefEqProofs only [go_sem, ↓reduceIte, Nat.reduceEqDiff, Nat.reduceAdd, Nat.reduceSub, Nat.reduceMul, Nat.reduceLeDiff, Nat.reduceLT, Nat.reduceBEq, Nat.reduceBNe, reduceCtorEq, beq_self_eq_true, Int.toNat_natCast, List.length_map, List.length_nil, Int.reduceToNat, Int.reduceAdd, Int.reduceSub, Int.reduceMul, Int.reduceLT, Int.reduceLE, Int.reduceEq, Int.reduceBEq, Int.reduceNeg, decide_true, decide_false, Nat.le_max_left, Nat.le_max_right, ne_eq, not_true_eq_false, not_false_eq_true, Int.natCast_zero, gt_iff_lt, ge_iff_le, Int.reduceGT, Int.reduceGE, Bool.false_and, Bool.and_false, Bool.true_and, Bool.and_true, eK, allN, hpb])).mono ?_
            rintro e ⟨E, H⟩ ⟨rfl, ⟨e1, h1⟩, e3⟩
            simp only at e1 h1 e3
            simp -implicitDefEqProofs only [go_sem, ↓reduceIte, Nat.reduceEqDiff, Nat.reduceAdd, Nat.reduceSub, Nat.reduceMul, Nat.reduceLeDiff, Nat.reduceLT, Nat.reduceBEq, Nat.reduceBNe, reduceCtorEq, beq_self_eq_true, Int.toNat_natCast, List.length_map, List.length_nil, Int.reduceToNat, Int.reduceAdd, Int.reduceSub, Int.reduceMul, Int.reduceLT, Int.reduceLE, Int.reduceEq, Int.reduceBEq, Int.reduceNeg, decide_true, decide_false, Nat.le_max_left, Nat.le_max_right, ne_eq, not_true_eq_false, not_false_eq_true, Int.natCast_zero, gt_iff_lt, ge_iff_le, Int.reduceGT, Int.reduceGE, Bool.false_and, Bool.and_false, Bool.true_and, Bool.and_true, e1, h1, e3]
            refine (rvalid_l1 c hc (pb && allN (qZ c) c.zones.length) 0 _ (by refine ⟨⟨?_, ?_⟩, ?_, ?_, by omega⟩ <;> simp -implicitDefEqProofs only [go_sem, ↓reduceIte, Nat.reduceEqDiff, Nat.reduceAdd, Nat.reduceSub, Nat.reduceMul, Nat.reduceLeDiff, Nat.reduceLT, Nat.reduceBEq, Nat.reduceBNe, reduceCtorEq, beq_self_eq_true, Int.toNat_natCast, List.length_map, List.length_nil, Int.reduceToNat, Int.reduceAdd, Int.reduceSub, Int.reduceMul, Int.reduceLT, Int.reduceLE, Int.reduceEq, Int.reduceBEq, Int.reduceNeg, decide_true, decide_false, Nat.le_max_left, Nat.le_max_right, ne_eq, not_true_eq_false, not_false_eq_true, Int.natCast_zero, gt_iff_lt, ge_iff_le, Int.reduceGT, Int.reduceGE, Bool.false_and, Bool.and_false, Bool.true_and, Bool.and_true, e1, h1, e3, allN])).mono ?_
            rintro e ⟨E, H⟩ ⟨rfl, ⟨e1, h1⟩, e3⟩
            simp only at e1 h1 e3
            simp -implicitDefEqProofs only [go_sem, ↓reduceIte, Nat.reduceEqDiff, Nat.reduceAdd, Nat.reduceSub, Nat.reduceMul, Nat.reduceLeDiff, Nat.reduceLT, Nat.reduceBEq, Nat.reduceBNe, reduceCtorEq, beq_self_eq_true, Int.toNat_natCast, List.length_map, List.length_nil, Int.reduceToNat, Int.reduceAdd, Int.reduceSub, Int.reduceMul, Int.reduceLT, Int.reduceLE, Int.reduceEq, Int.reduceBEq, Int.reduceNeg, decide_true, decide_false, Nat.le_max_left, Nat.le_max_right, ne_eq, not_true_eq_false, not_false_eq_true, Int.natCast_zero, gt_iff_lt, ge_iff_le, Int.reduceGT, Int.reduceGE, Bool.false_and, Bool.and_false, Bool.true_and, Bool.and_true, e1, h1, e3]
            refine (rvalid_l2 c hc (pb && allN (qZ c) c.zones.length && allN (qC c) c.cells.length) 0 _ (by refine ⟨⟨?_, ?_⟩, ?_, ?_, by omega⟩ <;> simp -implicitDefEqProofs only [go_sem, ↓reduceIte, Nat.reduceEqDiff, Nat.reduceAdd, Nat.reduceSub, Nat.reduceMul, Nat.reduceLeDiff, Nat.reduceLT, Nat.reduceBEq, Nat.reduceBNe, reduceCtorEq, beq_self_eq_true, Int.toNat_natCast, List.length_map, List.length_nil, Int.reduceToNat, Int.reduceAdd, Int.reduceSub, Int.reduceMul, Int.reduceLT, Int.reduceLE, Int.reduceEq, Int.reduceBEq, Int.reduceNeg, decide_true, decide_false, Nat.le_max_left, Nat.le_max_right, ne_eq, not_true_eq_false, not_false_eq_true, Int.natCast_zero, gt_iff_lt, ge_iff_le, Int.reduceGT, Int.reduceGE, Bool.false_and, Bool.and_false, Bool.true_and, Bool.and_true, e1, h1, e3, allN])).mono ?_
            rintro e ⟨E, H⟩ ⟨rfl, e3⟩
            simp only at e3
            cases hx : (pb && allN (qZ c) c.zones.length && allN (qC c) c.cells.length && allN (qV c) c.vers.length) <;> (rw [hx] at e3; simp -implicitDefEqProofs only [go_sem, ↓reduceIte, Nat.reduceEqDiff, Nat.reduceAdd, Nat.reduceSub, Nat.reduceMul, Nat.reduceLeDiff, Nat.reduceLT, Nat.reduceBEq, Nat.reduceBNe, reduceCtorEq, beq_self_eq_true, Int.toNat_natCast, List.length_map, List.length_nil, Int.reduceToNat, Int.reduceAdd, Int.reduceSub, Int.reduceMul, Int.reduceLT, Int.reduceLE, Int.reduceEq, Int.reduceBEq, Int.reduceNeg, decide_true, decide_false, Nat.le_max_left, Nat.le_max_right, ne_eq, not_true_eq_false, not_false_eq_true, Int.natCast_zero, gt_iff_lt, ge_iff_le, Int.reduceGT, Int.reduceGE, Bool.false_and, Bool.and_false, Bool.true_and, Bool.and_true, e3])
          | true =>
            cases r2 with
            | false =>
              have hpb : pb = false := by rw [hpre]; simp
              simp -implicitDefEqProofs only [go_sem, ↓reduceIte, Nat.reduceEqDiff, Nat.reduceAdd, Nat.reduceSub, Nat.reduceMul, Nat.reduceLeDiff, Nat.reduceLT, Nat.reduceBEq, Nat.reduceBNe, reduceCtorEq, beq_self_eq_true, Int.toNat_natCast, List.length_map, List.length_nil, Int.reduceToNat, Int.reduceAdd, Int.reduceSub, Int.reduceMul, Int.reduceLT, Int.reduceLE, Int.reduceEq, Int.reduceBEq, Int.reduceNeg, decide_true, decide_false, Nat.le_max_left, Nat.le_max_right, ne_eq, not_true_eq_false, not_false_eq_true, Int.natCast_zero, gt_iff_lt, ge_iff_le, Int.reduceGT, Int.reduceGE, Bool.false_and, Bool.and_false, Bool.true_and, Bool.and_true, ir31, eK, vpS B1 rfl, he, g0, q0, hf, Bool.not_false, vpS Z1 rfl, vpS Z2 rfl, vpS T1 rfl, vpS T2 rfl]
              refine (rvalid_l0 c hc hr pb 0 _ (by refine ⟨⟨?_, ?_⟩, ?_, ?_, by omega⟩ <;> simp -implicitDefEqProofs only [go_sem, ↓reduceIte, Nat.reduceEqDiff, Nat.reduceAdd, Nat.reduceSub, Nat.reduceMul, Nat.reduceLeDiff, Nat.reduceLT, Nat.reduceBEq, Nat.reduceBNe, reduceCtorEq, beq_self_eq_true, Int.toNat_natCast, List.length_map, List.length_nil, Int.reduceToNat, Int.reduceAdd, Int.reduceSub, Int.reduceMul, Int.reduceLT, Int.reduceLE, Int.reduceEq, Int.reduceBEq, Int.reduceNeg, decide_true, decide_false, Nat.le_max_left, Nat.le_max_right, ne_eq, not_true_eq_false, not_false_eq_true, Int.natCast_zero, gt_iff_lt, ge_iff_le, Int.reduceGT, Int.reduceGE, Bool.false_and, Bool.and_false, Bool.true_and, Bool.and_true, eK, allN, hpb])).mono ?_
              rintro e ⟨E, H⟩ ⟨rfl, ⟨e1, h1⟩, e3⟩
              simp only at e1 h1 e3
              simp -implicitDefEqProofs only [go_sem, ↓reduceIte, Nat.reduceEqDiff, Nat.reduceAdd, Nat.reduceSub, Nat.reduceMul, Nat.reduceLeDiff, Nat.reduceLT, Nat.reduceBEq, Nat.reduceBNe, reduceCtorEq, beq_self_eq_true, Int.toNat_natCast, List.length_map, List.length_nil, Int.reduceToNat, Int.reduceAdd, Int.reduceSub, Int.reduceMul, Int.reduceLT, Int.reduceLE, Int.reduceEq, Int.reduceBEq, Int.reduceNeg, decide_true, decide_false, Nat.le_max_left, Nat.le_max_right, ne_eq, not_true_eq_false, not_false_eq_true, Int.natCast_zero, gt_iff_lt, ge_iff_le, Int.reduceGT, Int.reduceGE, Bool.false_and, Bool.and_false, Bool.true_and, Bool.and_true, e1, h1, e3]
              refine (rvalid_l1 c hc (pb && allN (qZ c) c.zones.length) 0 _ (by refine ⟨⟨?_, ?_⟩, ?_, ?_, by omega⟩ <;> simp -implicitDefEqProofs only [go_sem, ↓reduceIte, Nat.reduceEqDiff, Nat.reduceAdd, Nat.reduceSub, Nat.reduceMul, Nat.reduceLeDiff, Nat.reduceLT, Nat.reduceBEq, Nat.reduceBNe, reduceCtorEq, beq_self_eq_true, Int.toNat_natCast, List.length_map, List.length_nil, Int.reduceToNat, Int.reduceAdd, Int.reduceSub, Int.reduceMul, Int.reduceLT, Int.reduceLE, Int.reduceEq, Int.reduceBEq, Int.reduceNeg, decide_true, decide_false, Nat.le_max_left, Nat.le_max_right, ne_eq, not_true_eq_false, not_false_eq_true, Int.natCast_zero, gt_iff_lt, ge_iff_le, Int.reduceGT, Int.reduceGE, Bool.false_and, Bool.and_false, Bool.true_and, Bool.and_true, e1, h1, e3, allN])).mono ?_
              rintro e ⟨E, H⟩ ⟨rfl, ⟨e1, h1⟩, e3⟩
              simp only at e1 h1 e3
              simp -implicitDefEqProofs only [go_sem, ↓reduceIte, Nat.reduceEqDiff, Nat.reduceAdd, Nat.reduceSub, Nat.reduceMul, Nat.reduceLeDiff, Nat.reduceLT, Nat.reduceBEq, Nat.reduceBNe, reduceCtorEq, beq_self_eq_true, Int.toNat_natCast, List.length_map, List.length_nil, Int.reduceToNat, Int.reduceAdd, Int.reduceSub, Int.reduceMul, Int.reduceLT, Int.reduceLE, Int.reduceEq, Int.reduceBEq, Int.reduceNeg, decide_true, decide_false, Nat.le_max_left, Nat.le_max_right, ne_eq, not_true_eq_false, not_false_eq_true, Int.natCast_zero, gt_iff_lt, ge_iff_le, Int.reduceGT, Int.reduceGE, Bool.false_and, Bool.and_false, Bool.true_and, Bool.and_true, e1, h1, e3]
              refine (rvalid_l2 c hc (pb && allN (qZ c) c.zones.length && allN (qC c) c.cells.length) 0 _ (by refine ⟨⟨?_, ?_⟩, ?_, ?_, by omega⟩ <;> simp -implicitDefEqProofs only [go_sem, ↓reduceIte, Nat.reduceEqDiff, Nat.reduceAdd, Nat.reduceSub, Nat.reduceMul, Nat.reduceLeDiff, Nat.reduceLT, Nat.reduceBEq, Nat.reduceBNe, reduceCtorEq, beq_self_eq_true, Int.toNat_natCast, List.length_map, List.length_nil, Int.reduceToNat, Int.reduceAdd, Int.reduceSub, Int.reduceMul, Int.reduceLT, Int.reduceLE, Int.reduceEq, Int.reduceBEq, Int.reduceNeg, decide_true, decide_false, Nat.le_max_left, Nat.le_max_right, ne_eq, not_true_eq_false, not_false_eq_true, Int.natCast_zero, gt_iff_lt, ge_iff_le, Int.reduceGT, Int.reduceGE, Bool.false_and, Bool.and_false, Bool.true_and, Bool.and_true, e1, h1, e3, allN])).mono ?_
              rintro e ⟨E, H⟩ ⟨rfl, e3⟩
              simp only at e3
              cases hx : (pb && allN (qZ c) c.zones.length && allN (qC c) c.cells.length && allN (qV c) c.vers.length) <;> (rw [hx] at e3; simp -implicitDefEqProofs only [go_sem, ↓reduceIte, Nat.reduceEqDiff, Nat.reduceAdd, Nat.reduceSub, Nat.reduceMul, Nat.reduceLeDiff, Nat.reduceLT, Nat.reduceBEq, Nat.reduceBNe, reduceCtorEq, beq_self_eq_true, Int.toNat_natCast, List.length_map, List.length_nil, Int.reduceToNat, Int.reduceAdd, Int.reduceSub, Int.reduceMul, Int.reduceLT, Int.reduceLE, Int.reduceEq, Int.reduceBEq, Int.reduceNeg, decide_true, decide_false, Nat.le_max_left, Nat.le_max_right, ne_eq, not_true_eq_false, not_false_eq_true, Int.natCast_zero, gt_iff_lt, ge_iff_le, Int.reduceGT, Int.reduceGE, Bool.false_and, Bool.and_false, Bool.true_and, Bool.and_true, e3])
            | true =>
              cases r3 with
              | false =>
                have hpb : pb = false := by rw [hpre]; simp
                simp -implicitDefEqProofs only [go_sem, ↓reduceIte, Nat.reduceEqDiff, Nat.reduceAdd, Nat.reduceSub, Nat.reduceMul, Nat.reduceLeDiff, Nat.reduceLT, Nat.reduceBEq, Nat.reduceBNe, reduceCtorEq, beq_self_eq_true, Int.toNat_natCast, List.length_map, List.length_nil, Int.reduceToNat, Int.reduceAdd, Int.reduceSub, Int.reduceMul, Int.reduceLT, Int.reduceLE, Int.reduceEq, Int.reduceBEq, Int.reduceNeg, decide_true, decide_false, Nat.le_max_left, Nat.le_max_right, ne_eq, not_true_eq_false, not_false_eq_true, Int.natCast_zero, gt_iff_lt, ge_iff_le, Int.reduceGT, Int.reduceGE, Bool.false_and, Bool.and_false, Bool.true_and, Bool.and_true, ir31, eK, vpS B1 rfl, he, g0, q0, hf, Bool.not_false, vpS Z1 rfl, vpS Z2 rfl, vpS T1 rfl, vpS T2 rfl, vpS T3 rfl]
                refine (rvalid_l0 c hc hr pb 0 _ (by refine ⟨⟨?_, ?_⟩, ?_, ?_, by omega⟩ <;> simp -implicitDefEqProofs only [go_sem, ↓reduceIte, Nat.reduceEqDiff, Nat.reduceAdd, Nat.reduceSub, Nat.reduceMul, Nat.reduceLeDiff, Nat.reduceLT, Nat.reduceBEq, Nat.reduceBNe, reduceCtorEq, beq_self_eq_true, Int.toNat_natCast, List.length_map, List.length_nil, Int.reduceToNat, Int.reduceAdd, Int.reduceSub, Int.reduceMul, Int.reduceLT, Int.reduceLE, Int.reduceEq, Int.reduceBEq, Int.reduceNeg, decide_true, decide_false, Nat.le_max_left, Nat.le_max_right, ne_eq, not_true_eq_false, not_false_eq_true, Int.natCast_zero, gt_iff_lt, ge_iff_le, Int.reduceGT, Int.reduceGE, Bool.false_and, Bool.and_false, Bool.true_and, Bool.and_true, eK, allN, hpb])).mono ?_
                rintro e ⟨E, H⟩ ⟨rfl, ⟨e1, h1⟩, e3⟩
                simp only at e1 h1 e3
                simp -implicitDefEqProofs only [go_sem, ↓reduceIte, Nat.reduceEqDiff, Nat.reduceAdd, Nat.reduceSub, Nat.reduceMul, Nat.reduceLeDiff, Nat.reduceLT, Nat.reduceBEq, Nat.reduceBNe, reduceCtorEq, beq_self_eq_true, Int.toNat_natCast, List.length_map, List.length_nil, Int.reduceToNat, Int.reduceAdd, Int.reduceSub, Int.reduceMul, Int.reduceLT, Int.reduceLE, Int.reduceEq, Int.reduceBEq, Int.reduceNeg, decide_true, decide_false, Nat.le_max_left, Nat.le_max_right, ne_eq, not_true_eq_false, not_false_eq_true, Int.natCast_zero, gt_iff_lt, ge_iff_le, Int.reduceGT, Int.reduceGE, Bool.false_and, Bool.and_false, Bool.true_and, Bool.and_true, e1, h1, e3]
                refine (rvalid_l1 c hc (pb && allN (qZ c) c.zones.length) 0 _ (by refine ⟨⟨?_, ?_⟩, ?_, ?_, by omega⟩ <;> simp -implicitDefEqProofs only [go_sem, ↓reduceIte, Nat.reduceEqDiff, Nat.reduceAdd, Nat.reduceSub, Nat.reduceMul, Nat.reduceLeDiff, Nat.reduceLT, Nat.reduceBEq, Nat.reduceBNe, reduceCtorEq, beq_self_eq_true, Int.toNat_natCast, List.length_map, List.length_nil, Int.reduceToNat, Int.reduceAdd, Int.reduceSub, Int.reduceMul, Int.reduceLT, Int.reduceLE, Int.reduceEq, Int.reduceBEq, Int.reduceNeg, decide_true, decide_false, Nat.le_max_left, Nat.le_max_right, ne_eq, not_true_eq_false, not_false_eq_true, Int.natCast_zero, gt_iff_lt, ge_iff_le, Int.reduceGT, Int.reduceGE, Bool.false_and, Bool.and_false, Bool.true_and, Bool.and_true, e1, h1, e3, allN])).mono ?_
                rintro e ⟨E, H⟩ ⟨rfl, ⟨e1, h1⟩, e3⟩
                simp only at e1 h1 e3
                simp -implicitDefEqProofs only [go_sem, ↓reduceIte, Nat.reduceEqDiff, Nat.reduceAdd, Nat.reduceSub, Nat.reduceMul, Nat.reduceLeDiff, Nat.reduceLT, Nat.reduceBEq, Nat.reduceBNe, reduceCtorEq, beq_self_eq_true, Int.toNat_natCast, List.length_map, List.length_nil, Int.reduceToNat, Int.reduceAdd, Int.reduceSub, Int.reduceMul, Int.reduceLT, Int.reduceLE, Int.reduceEq, Int.reduceBEq, Int.reduceNeg, decide_true, decide_false, Nat.le_max_left, Nat.le_max_right, ne_eq, not_true_eq_false, not_false_eq_true, Int.natCast_zero, gt_iff_lt, ge_iff_le, Int.reduceGT, Int.reduceGE, Bool.false_and, Bool.and_false, Bool.true_and, Bool.and_true, e1, h1, e3]
                refine (rvalid_l2 c hc (pb && allN (qZ c) c.zones.length && allN (qC c) c.cells.length) 0 _ (by refine ⟨⟨?_, ?_⟩, ?_, ?_, by omega⟩ <;> simp -implicitDefEqProofs only [go_sem, ↓reduceIte, Nat.reduceEqDiff, Nat.reduceAdd, Nat.reduceSub, Nat.reduceMul, Nat.reduceLeDiff, Nat.reduceLT, Nat.reduceBEq, Nat.reduceBNe, reduceCtorEq, beq_self_eq_true, Int.toNat_natCast, List.length_map, List.length_nil, Int.reduceToNat, Int.reduceAdd, Int.reduceSub, Int.reduceMul, Int.reduceLT, Int.reduceLE, Int.reduceEq, Int.reduceBEq, Int.reduceNeg, decide_true, decide_false, Nat.le_max_left, Nat.le_max_right, ne_eq, not_true_eq_false, not_false_eq_true, Int.natCast_zero, gt_iff_lt, ge_iff_le, Int.reduceGT, Int.reduceGE, Bool.false_and, Bool.and_false, Bool.true_and, Bool.and_true, e1, h1, e3, allN])).mono ?_
                rintro e ⟨E, H⟩ ⟨rfl, e3⟩
                simp only at e3
                cases hx : (pb && allN (qZ c) c.zones.length && allN (qC c) c.cells.length && allN (qV c) c.vers.length) <;> (rw [hx] at e3; simp -implicitDefEqProofs only [go_sem, ↓reduceIte, Nat.reduceEqDiff, Nat.reduceAdd, Nat.reduceSub, Nat.reduceMul, Nat.reduceLeDiff, Nat.reduceLT, Nat.reduceBEq, Nat.reduceBNe, reduceCtorEq, beq_self_eq_true, Int.toNat_natCast, List.length_map, List.length_nil, Int.reduceToNat, Int.reduceAdd, Int.reduceSub, Int.reduceMul, Int.reduceLT, Int.reduceLE, Int.reduceEq, Int.reduceBEq, Int.reduceNeg, decide_true, decide_false, Nat.le_max_left, Nat.le_max_right, ne_eq, not_true_eq_false, not_false_eq_true, Int.natCast_zero, gt_iff_lt, ge_iff_le, Int.reduceGT, Int.reduceGE, Bool.false_and, Bool.and_false, Bool.true_and, Bool.and_true, e3])
              | true =>
                have hpb : pb = fb := by rw [hpre]; simp
                simp -implicitDefEqProofs only [go_sem, ↓reduceIte, Nat.reduceEqDiff, Nat.reduceAdd, Nat.reduceSub, Nat.reduceMul, Nat.reduceLeDiff, Nat.reduceLT, Nat.reduceBEq, Nat.reduceBNe, reduceCtorEq, beq_self_eq_true, Int.toNat_natCast, List.length_map, List.length_nil, Int.reduceToNat, Int.reduceAdd, Int.reduceSub, Int.reduceMul, Int.reduceLT, Int.reduceLE, Int.reduceEq, Int.reduceBEq, Int.reduceNeg, decide_true, decide_false, Nat.le_max_left, Nat.le_max_right, ne_eq, not_true_eq_false, not_false_eq_true, Int.natCast_zero, gt_iff_lt, ge_iff_le, Int.reduceGT, Int.reduceGE, Bool.false_and, Bool.and_false, Bool.true_and, Bool.and_true, ir31, eK, vpS B1 rfl, he, g0, q0, hf, Bool.not_false, vpS Z1 rfl, vpS Z2 rfl, vpS T1 rfl, vpS T2 rfl, vpS T3 rfl]
                refine (rvalid_l0 c hc hr pb 0 _ (by refine ⟨⟨?_, ?_⟩, ?_, ?_, by omega⟩ <;> simp -implicitDefEqProofs only [go_sem, ↓reduceIte, Nat.reduceEqDiff, Nat.reduceAdd, Nat.reduceSub, Nat.reduceMul, Nat.reduceLeDiff, Nat.reduceLT, Nat.reduceBEq, Nat.reduceBNe, reduceCtorEq, beq_self_eq_true, Int.toNat_natCast, List.length_map, List.length_nil, Int.reduceToNat, Int.reduceAdd, Int.reduceSub, Int.reduceMul, Int.reduceLT, Int.reduceLE, Int.reduceEq, Int.reduceBEq, Int.reduceNeg, decide_true, decide_false, Nat.le_max_left, Nat.le_max_right, ne_eq, not_true_eq_false, not_false_eq_true, Int.natCast_zero, gt_iff_lt, ge_iff_le, Int.reduceGT, Int.reduceGE, Bool.false_and, Bool.and_false, Bool.true_and, Bool.and_true, eK, allN, hpb])).mono ?_
                rintro e ⟨E, H⟩ ⟨rfl, ⟨e1, h1⟩, e3⟩
                simp only at e1 h1 e3
                simp -implicitDefEqProofs only [go_sem, ↓reduceIte, Nat.reduceEqDiff, Nat.reduceAdd, Nat.reduceSub, Nat.reduceMul, Nat.reduceLeDiff, Nat.reduceLT, Nat.reduceBEq, Nat.reduceBNe, reduceCtorEq, beq_self_eq_true, Int.toNat_natCast, List.length_map, List.length_nil, Int.reduceToNat, Int.reduceAdd, Int.reduceSub, Int.reduceMul, Int.reduceLT, Int.reduceLE, Int.reduceEq, Int.reduceBEq, Int.reduceNeg, decide_true, decide_false, Nat.le_max_left, Nat.le_max_right, ne_eq, not_true_eq_false, not_false_eq_true, Int.natCast_zero, gt_iff_lt, ge_iff_le, Int.reduceGT, Int.reduceGE, Bool.false_and, Bool.and_false, Bool.true_and, Bool.and_true, e1, h1, e3]
                refine (rvalid_l1 c hc (pb && allN (qZ c) c.zones.length) 0 _ (by refine ⟨⟨?_, ?_⟩, ?_, ?_, by omega⟩ <;> simp -implicitDefEqProofs only [go_sem, ↓reduceIte, Nat.reduceEqDiff, Nat.reduceAdd, Nat.reduceSub, Nat.reduceMul, Nat.reduceLeDiff, Nat.reduceLT, Nat.reduceBEq, Nat.reduceBNe, reduceCtorEq, beq_self_eq_true, Int.toNat_natCast, List.length_map, List.length_nil, Int.reduceToNat, Int.reduceAdd, Int.reduceSub, Int.reduceMul, Int.reduceLT, Int.reduceLE, Int.reduceEq, Int.reduceBEq, Int.reduceNeg, decide_true, decide_false, Nat.le_max_left, Nat.le_max_right, ne_eq, not_true_eq_false, not_false_eq_true, Int.natCast_zero, gt_iff_lt, ge_iff_le, Int.reduceGT, Int.reduceGE, Bool.false_and, Bool.and_false, Bool.true_and, Bool.and_true, e1, h1, e3, allN])).mono ?_
                rintro e ⟨E, H⟩ ⟨rfl, ⟨e1, h1⟩, e3⟩
                simp only at e1 h1 e3
                simp -implicitDefEqProofs only [go_sem, ↓reduceIte, Nat.reduceEqDiff, Nat.reduceAdd, Nat.reduceSub, Nat.reduceMul, Nat.reduceLeDiff, Nat.reduceLT, Nat.reduceBEq, Nat.reduceBNe, reduceCtorEq, beq_self_eq_true, Int.toNat_natCast, List.length_map, List.length_nil, Int.reduceToNat, Int.reduceAdd, Int.reduceSub, Int.reduceMul, Int.reduceLT, Int.reduceLE, Int.reduceEq, Int.reduceBEq, Int.reduceNeg, decide_true, decide_false, Nat.le_max_left, Nat.le_max_right, ne_eq, not_true_eq_false, not_false_eq_true, Int.natCast_zero, gt_iff_lt, ge_iff_le, Int.reduceGT, Int.reduceGE, Bool.false_and, Bool.and_false, Bool.true_and, Bool.and_true, e1, h1, e3]
                refine (rvalid_l2 c hc (pb && allN (qZ c) c.zones.length && allN (qC c) c.cells.length) 0 _ (by refine ⟨⟨?_, ?_⟩, ?_, ?_, by omega⟩ <;> simp -implicitDefEqProofs only [go_sem, ↓reduceIte, Nat.reduceEqDiff, Nat.reduceAdd, Nat.reduceSub, Nat.reduceMul, Nat.reduceLeDiff, Nat.reduceLT, Nat.reduceBEq, Nat.reduceBNe, reduceCtorEq, beq_self_eq_true, Int.toNat_natCast, List.length_map, List.length_nil, Int.reduceToNat, Int.reduceAdd, Int.reduceSub, Int.reduceMul, Int.reduceLT, Int.reduceLE, Int.reduceEq, Int.reduceBEq, Int.reduceNeg, decide_true, decide_false, Nat.le_max_left, Nat.le_max_right, ne_eq, not_true_eq_false, not_false_eq_true, Int.natCast_zero, gt_iff_lt, ge_iff_le, Int.reduceGT, Int.reduceGE, Bool.false_and, Bool.and_false, Bool.true_and, Bool.and_true, e1, h1, e3, allN])).mono ?_
                rintro e ⟨E, H⟩ ⟨rfl, e3⟩
                simp only at e3
                cases hx : (pb && allN (qZ c) c.zones.length && allN (qC c) c.cells.length && allN (qV c) c.vers.length) <;> (rw [hx] at e3; simp -implicitDefEqProofs only [go_sem, ↓reduceIte, Nat.reduceEqDiff, Nat.reduceAdd, Nat.reduceSub, Nat.reduceMul, Nat.reduceLeDiff, Nat.reduceLT, Nat.reduceBEq, Nat.reduceBNe, reduceCtorEq, beq_self_eq_true, Int.toNat_natCast, List.length_map, List.length_nil, Int.reduceToNat, Int.reduceAdd, Int.reduceSub, Int.reduceMul, Int.reduceLT, Int.reduceLE, Int.reduceEq, Int.reduceBEq, Int.reduceNeg, decide_true, decide_false, Nat.le_max_left, Nat.le_max_right, ne_eq, not_true_eq_false, not_false_eq_true, Int.natCast_zero, gt_iff_lt, ge_iff_le, Int.reduceGT, Int.reduceGE, Bool.false_and, Bool.and_false, Bool.true_and, Bool.and_true, e3])
def smallB (c : Conf) : Bool := decide ((c.zones.length : Int) ≤ 20) && decide ((c.cells.length : Int) ≤ 20) && decide ((c.tens.length : Int) ≤ 40) && decide ((c.vers.length : Int) ≤ 40) && decide ((c.reps.length : Int) ≤ 12) && decide ((c.obs.length : Int) ≤ 12)
theorem small_lens {c : Conf} (h : smallB c = true) : Lens c := by
  unfold smallB at h
  simp only [Bool.and_eq_true, decide_eq_true_eq] at h
  constructor <;> omega
theorem FV_Small (c : Conf) : FV PP shF 26 [.agg (eK c)] = some (dB (smallB c)) := by
  refine FV_ok (F_ok PP26 rfl ⟨by simp [ir26], by simp⟩ ?_)
  unfold smallB
  by_cases b1 : (c.zones.length : Int) ≤ 20
  · by_cases b2 : (c.cells.length : Int) ≤ 20
    · by_cases b3 : (c.tens.length : Int) ≤ 40
      · by_cases b4 : (c.vers.length : Int) ≤ 40
        · by_cases b5 : (c.reps.length : Int) ≤ 12
          · simp -implicitDefEqProofs only [go_sem, ↓reduceIte, Nat.reduceEqDiff, Nat.reduceAdd, Nat.reduceSub, Nat.reduceMul, Nat.reduceLeDiff, Nat.reduceLT, Nat.reduceBEq, Nat.reduceBNe, reduceCtorEq, beq_self_eq_true, Int.toNat_natCast, List.length_map, List.length_nil, Int.reduceToNat, Int.reduceAdd, Int.reduceSub, Int.reduceMul, Int.reduceLT, Int.reduceLE, Int.reduceEq, Int.reduceBEq, Int.reduceNeg, decide_true, decide_false, Nat.le_max_left, Nat.le_max_right, ne_eq, not_true_eq_false, not_false_eq_true, Int.natCast_zero, gt_iff_lt, ge_iff_le, Int.reduceGT, Int.reduceGE, Bool.false_and, Bool.and_false, Bool.true_and, Bool.and_true, ir26, eK, b1, b2, b3, b4, b5]
          · simp -implicitDefEqProofs only [go_sem, ↓reduceIte, Nat.reduceEqDiff, Nat.reduceAdd, Nat.reduceSub, Nat.reduceMul, Nat.reduceLeDiff, Nat.reduceLT, Nat.reduceBEq, Nat.reduceBNe, reduceCtorEq, beq_self_eq_true, Int.toNat_natCast, List.length_map, List.length_nil, Int.reduceToNat, Int.reduceAdd, Int.reduceSub, Int.reduceMul, Int.reduceLT, Int.reduceLE, Int.reduceEq, Int.reduceBEq, Int.reduceNeg, decide_true, decide_false, Nat.le_max_left, Nat.le_max_right, ne_eq, not_true_eq_false, not_false_eq_true, Int.natCast_zero, gt_iff_lt, ge_iff_le, Int.reduceGT, Int.reduceGE, Bool.false_and, Bool.and_false, Bool.true_and, Bool.and_true, ir26, eK, b1, b2, b3, b4, b5]
        · simp -implicitDefEqProofs only [go_sem, ↓reduceIte, Nat.reduceEqDiff, Nat.reduceAdd, Nat.reduceSub, Nat.reduceMul, Nat.reduceLeDiff, Nat.reduceLT, Nat.reduceBEq, Nat.reduceBNe, reduceCtorEq, beq_self_eq_true, Int.toNat_natCast, List.length_map, List.length_nil, Int.reduceToNat, Int.reduceAdd, Int.reduceSub, Int.reduceMul, Int.reduceLT, Int.reduceLE, Int.reduceEq, Int.reduceBEq, Int.reduceNeg, decide_true, decide_false, Nat.le_max_left, Nat.le_max_right, ne_eq, not_true_eq_false, not_false_eq_true, Int.natCast_zero, gt_iff_lt, ge_iff_le, Int.reduceGT, Int.reduceGE, Bool.false_and, Bool.and_false, Bool.true_and, Bool.and_true, ir26, eK, b1, b2, b3, b4]
      · simp -implicitDefEqProofs only [go_sem, ↓reduceIte, Nat.reduceEqDiff, Nat.reduceAdd, Nat.reduceSub, Nat.reduceMul, Nat.reduceLeDiff, Nat.reduceLT, Nat.reduceBEq, Nat.reduceBNe, reduceCtorEq, beq_self_eq_true, Int.toNat_natCast, List.length_map, List.length_nil, Int.reduceToNat, Int.reduceAdd, Int.reduceSub, Int.reduceMul, Int.reduceLT, Int.reduceLE, Int.reduceEq, Int.reduceBEq, Int.reduceNeg, decide_true, decide_false, Nat.le_max_left, Nat.le_max_right, ne_eq, not_true_eq_false, not_false_eq_true, Int.natCast_zero, gt_iff_lt, ge_iff_le, Int.reduceGT, Int.reduceGE, Bool.false_and, Bool.and_false, Bool.true_and, Bool.and_true, ir26, eK, b1, b2, b3]
    · simp -implicitDefEqProofs only [go_sem, ↓reduceIte, Nat.reduceEqDiff, Nat.reduceAdd, Nat.reduceSub, Nat.reduceMul, Nat.reduceLeDiff, Nat.reduceLT, Nat.reduceBEq, Nat.reduceBNe, reduceCtorEq, beq_self_eq_true, Int.toNat_natCast, List.length_map, List.length_nil, Int.reduceToNat, Int.reduceAdd, Int.reduceSub, Int.reduceMul, Int.reduceLT, Int.reduceLE, Int.reduceEq, Int.reduceBEq, Int.reduceNeg, decide_true, decide_false, Nat.le_max_left, Nat.le_max_right, ne_eq, not_true_eq_false, not_false_eq_true, Int.natCast_zero, gt_iff_lt, ge_iff_le, Int.reduceGT, Int.reduceGE, Bool.false_and, Bool.and_false, Bool.true_and, Bool.and_true, ir26, eK, b1, b2]
  · simp -implicitDefEqProofs only [go_sem, ↓reduceIte, Nat.reduceEqDiff, Nat.reduceAdd, Nat.reduceSub, Nat.reduceMul, Nat.reduceLeDiff, Nat.reduceLT, Nat.reduceBEq, Nat.reduceBNe, reduceCtorEq, beq_self_eq_true, Int.toNat_natCast, List.length_map, List.length_nil, Int.reduceToNat, Int.reduceAdd, Int.reduceSub, Int.reduceMul, Int.reduceLT, Int.reduceLE, Int.reduceEq, Int.reduceBEq, Int.reduceNeg, decide_true, decide_false, Nat.le_max_left, Nat.le_max_right, ne_eq, not_true_eq_false, not_false_eq_true, Int.natCast_zero, gt_iff_lt, ge_iff_le, Int.reduceGT, Int.reduceGE, Bool.false_and, Bool.and_false, Bool.true_and, Bool.and_true, ir26, eK, b1]
theorem len_eI (l : List Int) : (l.map eI).all (fun el => el.length == 1) = true := by simp [List.all_eq_true]
theorem one_eI (l : List Int) : (l.map eI).all (fun el => el.length == 1 && el.all oneD) = true := by simp [List.all_eq_true, oneD]
theorem len_eC (l : List Cell) : (l.map eC).all (fun el => el.length == 2) = true := by simp [List.all_eq_true]
theorem one_eC (l : List Cell) : (l.map eC).all (fun el => el.length == 2 && el.all oneD) = true := by simp [List.all_eq_true, oneD]
theorem len_eV (l : List Ver) : (l.map eV).all (fun el => el.length == 2) = true := by simp [List.all_eq_true]
theorem one_eV (l : List Ver) : (l.map eV).all (fun el => el.length == 2 && el.all oneD) = true := by simp [List.all_eq_true, oneD]
theorem len_eT (l : List Ten) : (l.map eT).all (fun el => el.length == 7) = true := by simp [List.all_eq_true]
theorem one_eT (l : List Ten) : (l.map eT).all (fun el => el.length == 7 && el.all oneD) = true := by simp [List.all_eq_true, oneD]
def bent (c : Conf) (k : Nat) (b : Int) : Conf := match k with
  | 0 => { c with regions := b }
  | 1 => { c with zones := c.zones ++ [b] }
  | 2 => { c with cells := c.cells ++ [⟨b, 5⟩] }
  | 3 => { c with cells := c.cells.set (b % c.cells.length).toNat ⟨(c.cells.getD (b % c.cells.length).toNat ⟨0, 0⟩).zone, b⟩ }
  | 4 => { c with reps := c.reps ++ [b] }
  | 5 => { c with reps := c.reps ++ [0, b] }
  | 6 => { c with obs := c.obs ++ [b] }
  | 7 => { c with vers := c.vers ++ [⟨b % 3, b⟩] }
  | 8 => { c with blast := b }
  | 9 => { c with lease := b }
  | 10 => { c with bake := b }
  | 11 => { c with tens := c.tens ++ [⟨b, 0, 0, 0, 1, 0, false⟩] }
  | 12 => { c with tens := c.tens ++ [⟨5, 3, 0, 0, b, 0, false⟩] }
  | _ => { c with tens := c.tens ++ [⟨5, b, 0, b % 4 - 2, 1, 0, false⟩] }
theorem FV_Bent (c : Conf) (hc : ConfOk c) (a : Int) (ha : I64 a) (b : Int) (hb : I64 b) : FV PP shF 29 [.agg (eK c), dI a, dI b] = some (.agg (eK (bent c (a % 14).toNat b))) := by
  have M := FV_Mod a 14 ha (by decide) (by decide)
  have hcl : 1 ≤ c.cells.length := by have := hc.c0; have := hc.z0; have := hc.r0; omega
  have hcl1 := hc.lens.c
  have M2 := FV_Mod b (c.cells.length : Nat) hb (by omega) (by omega)
  have M3 := FV_Mod b 3 hb (by decide) (by decide)
  have M4 := FV_Mod b 4 hb (by decide) (by decide)
  have w4 : IntKind.wrap .i64 (b % 4 - 2) = b % 4 - 2 := w64 (by omega) (by omega)
  have l1 := hc.lens.z
  have l2 := hc.lens.t
  have l3 := hc.lens.v
  have l4 := hc.lens.p
  have l5 := hc.lens.o
  have z0 : 1 ≤ c.zones.length := by have := hc.z0; have := hc.r0; omega
  have p0 : 1 ≤ c.reps.length := by have := hc.ps; omega
  have o0 := hc.o0
  have v0 : 1 ≤ c.vers.length := by have := hc.v0; have := List.length_pos_iff.2 this; omega
  refine FV_ok (F_ok PP29 rfl ⟨by simp [ir29], by simp⟩ ?_)
  obtain h | h | h | h | h | h | h | h | h | h | h | h | h | h : a % 14 = 0 ∨ a % 14 = 1 ∨ a % 14 = 2 ∨ a % 14 = 3 ∨ a % 14 = 4 ∨ a % 14 = 5 ∨ a % 14 = 6 ∨ a % 14 = 7 ∨ a % 14 = 8 ∨ a % 14 = 9 ∨ a % 14 = 10 ∨ a % 14 = 11 ∨ a % 14 = 12 ∨ a % 14 = 13 := by omega
  · rw [h] at M
    simp -implicitDefEqProofs only [go_sem, ↓reduceIte, Nat.reduceEqDiff, Nat.reduceAdd, Nat.reduceSub, Nat.reduceMul, Nat.reduceLeDiff, Nat.reduceLT, Nat.reduceBEq, Nat.reduceBNe, reduceCtorEq, beq_self_eq_true, Int.toNat_natCast, List.length_map, List.length_nil, Int.reduceToNat, Int.reduceAdd, Int.reduceSub, Int.reduceMul, Int.reduceLT, Int.reduceLE, Int.reduceEq, Int.reduceBEq, Int.reduceNeg, decide_true, decide_false, Nat.le_max_left, Nat.le_max_right, ne_eq, not_true_eq_false, not_false_eq_true, Int.natCast_zero, gt_iff_lt, ge_iff_le, Int.reduceGT, Int.reduceGE, Bool.false_and, Bool.and_false, Bool.true_and, Bool.and_true, ir29, eK, vpS M rfl, vpS M2 rfl, h, bent]
  · rw [h] at M
    have x0 : ¬ c.zones.length ≤ 0 := by omega
    have x1 : c.zones.length * 8 ≤ 140737488355328 ∧ c.zones.length ≤ 9223372036854775807 := by omega
    have x2 : ¬ c.zones.length + 1 ≤ c.zones.length := by omega
    have x3 : (c.zones.length + 1) * 8 ≤ 140737488355328 ∧ c.zones.length + 1 ≤ 9223372036854775807 ∧ c.zones.length ≤ 9223372036854775806 ∧ c.zones.length ≤ 9223372036854775805 := by omega
    have x4 : List.take c.zones.length (c.zones.map eI) = c.zones.map eI := List.take_of_length_le (by simp)
    have x5 : List.take (c.zones.length + 1) (c.zones.map eI ++ [[dI b]]) = c.zones.map eI ++ [[dI b]] := List.take_of_length_le (by simp)
    have x6 : (c.zones.map eI ++ [[dI b]]).length = c.zones.length + 1 := by simp
    simp -implicitDefEqProofs only [go_sem, ↓reduceIte, Nat.reduceEqDiff, Nat.reduceAdd, Nat.reduceSub, Nat.reduceMul, Nat.reduceLeDiff, Nat.reduceLT, Nat.reduceBEq, Nat.reduceBNe, reduceCtorEq, beq_self_eq_true, Int.toNat_natCast, List.length_map, List.length_nil, Int.reduceToNat, Int.reduceAdd, Int.reduceSub, Int.reduceMul, Int.reduceLT, Int.reduceLE, Int.reduceEq, Int.reduceBEq, Int.reduceNeg, decide_true, decide_false, Nat.le_max_left, Nat.le_max_right, ne_eq, not_true_eq_false, not_false_eq_true, Int.natCast_zero, gt_iff_lt, ge_iff_le, Int.reduceGT, Int.reduceGE, Bool.false_and, Bool.and_false, Bool.true_and, Bool.and_true, ir29, eK, vpS M rfl, vpS M2 rfl, h, bent, len_eI, one_eI, x0, x1, x2, x3, x4, x5, x6, closed_eI, List.map_append, List.all_append, Nat.le_refl]
  · rw [h] at M
    have x0 : ¬ c.cells.length ≤ 0 := by omega
    have x1 : c.cells.length * 16 ≤ 140737488355328 ∧ c.cells.length ≤ 9223372036854775807 := by omega
    have x2 : ¬ c.cells.length + 1 ≤ c.cells.length := by omega
    have x3 : (c.cells.length + 1) * 16 ≤ 140737488355328 ∧ c.cells.length + 1 ≤ 9223372036854775807 ∧ c.cells.length ≤ 9223372036854775806 ∧ c.cells.length ≤ 9223372036854775805 := by omega
    have x4 : List.take c.cells.length (c.cells.map eC) = c.cells.map eC := List.take_of_length_le (by simp)
    have x5 : List.take (c.cells.length + 1) (c.cells.map eC ++ [[dI b, dI 5]]) = c.cells.map eC ++ [[dI b, dI 5]] := List.take_of_length_le (by simp)
    have x6 : (c.cells.map eC ++ [[dI b, dI 5]]).length = c.cells.length + 1 := by simp
    simp -implicitDefEqProofs only [go_sem, ↓reduceIte, Nat.reduceEqDiff, Nat.reduceAdd, Nat.reduceSub, Nat.reduceMul, Nat.reduceLeDiff, Nat.reduceLT, Nat.reduceBEq, Nat.reduceBNe, reduceCtorEq, beq_self_eq_true, Int.toNat_natCast, List.length_map, List.length_nil, Int.reduceToNat, Int.reduceAdd, Int.reduceSub, Int.reduceMul, Int.reduceLT, Int.reduceLE, Int.reduceEq, Int.reduceBEq, Int.reduceNeg, decide_true, decide_false, Nat.le_max_left, Nat.le_max_right, ne_eq, not_true_eq_false, not_false_eq_true, Int.natCast_zero, gt_iff_lt, ge_iff_le, Int.reduceGT, Int.reduceGE, Bool.false_and, Bool.and_false, Bool.true_and, Bool.and_true, ir29, eK, vpS M rfl, vpS M2 rfl, h, bent, len_eC, one_eC, x0, x1, x2, x3, x4, x5, x6, closed_eC, List.map_append, List.all_append, Nat.le_refl]
  · rw [h] at M
    have x0 : ¬ c.cells.length ≤ 0 := by omega
    have x1 : c.cells.length * 16 ≤ 140737488355328 ∧ c.cells.length ≤ 9223372036854775807 := by omega
    have y0 : 0 ≤ b % (c.cells.length : Int) := Int.emod_nonneg _ (by omega)
    have y1 : b % (c.cells.length : Int) < (c.cells.length : Int) := Int.emod_lt_of_pos _ (by omega)
    have y2 := getD_at (l := c.cells) (i := (b % (c.cells.length : Int)).toNat) (d := ⟨0, 0⟩) (by omega)
    have x4 : List.take c.cells.length (c.cells.map eC) = c.cells.map eC := List.take_of_length_le (by simp)
    have y3 : (List.map eC c.cells).set (b % (c.cells.length : Int)).toNat [dI (c.cells.getD (b % (c.cells.length : Int)).toNat ⟨0, 0⟩).zone, dI b] = List.map eC (c.cells.set (b % (c.cells.length : Int)).toNat ⟨(c.cells.getD (b % (c.cells.length : Int)).toNat ⟨0, 0⟩).zone, b⟩) := by rw [List.map_set]
    have y4 := closed_eC (c.cells.set (b % (c.cells.length : Int)).toNat ⟨(c.cells.getD (b % (c.cells.length : Int)).toNat ⟨0, 0⟩).zone, b⟩)
    have y5 : (c.cells.set (b % (c.cells.length : Int)).toNat ⟨(c.cells.getD (b % (c.cells.length : Int)).toNat ⟨0, 0⟩).zone, b⟩).length = c.cells.length := by simp
    have y6 : List.take c.cells.length ((c.cells.set (b % (c.cells.length : Int)).toNat ⟨(c.cells.getD (b % (c.cells.length : Int)).toNat ⟨0, 0⟩).zone, b⟩).map eC) = (c.cells.set (b % (c.cells.length : Int)).toNat ⟨(c.cells.getD (b % (c.cells.length : Int)).toNat ⟨0, 0⟩).zone, b⟩).map eC := List.take_of_length_le (by simp)
    simp -implicitDefEqProofs only [go_sem, ↓reduceIte, Nat.reduceEqDiff, Nat.reduceAdd, Nat.reduceSub, Nat.reduceMul, Nat.reduceLeDiff, Nat.reduceLT, Nat.reduceBEq, Nat.reduceBNe, reduceCtorEq, beq_self_eq_true, Int.toNat_natCast, List.length_map, List.length_nil, Int.reduceToNat, Int.reduceAdd, Int.reduceSub, Int.reduceMul, Int.reduceLT, Int.reduceLE, Int.reduceEq, Int.reduceBEq, Int.reduceNeg, decide_true, decide_false, Nat.le_max_left, Nat.le_max_right, ne_eq, not_true_eq_false, not_false_eq_true, Int.natCast_zero, gt_iff_lt, ge_iff_le, Int.reduceGT, Int.reduceGE, Bool.false_and, Bool.and_false, Bool.true_and, Bool.and_true, ir29, eK, vpS M rfl, vpS M2 rfl, h, bent, len_eC, one_eC, x0, x1, x4, y0, y1, y2, y3, y4, y5, y6, closed_eC, Nat.le_refl]
  · rw [h] at M
    have x0 : ¬ c.reps.length ≤ 0 := by omega
    have x1 : c.reps.length * 8 ≤ 140737488355328 ∧ c.reps.length ≤ 9223372036854775807 := by omega
    have x2 : ¬ c.reps.length + 1 ≤ c.reps.length := by omega
    have x3 : (c.reps.length + 1) * 8 ≤ 140737488355328 ∧ c.reps.length + 1 ≤ 9223372036854775807 ∧ c.reps.length ≤ 9223372036854775806 ∧ c.reps.length ≤ 9223372036854775805 := by omega
    have x4 : List.take c.reps.length (c.reps.map eI) = c.reps.map eI := List.take_of_length_le (by simp)
    have x5 : List.take (c.reps.length + 1) (c.reps.map eI ++ [[dI b]]) = c.reps.map eI ++ [[dI b]] := List.take_of_length_le (by simp)
    have x6 : (c.reps.map eI ++ [[dI b]]).length = c.reps.length + 1 := by simp
    simp -implicitDefEqProofs only [go_sem, ↓reduceIte, Nat.reduceEqDiff, Nat.reduceAdd, Nat.reduceSub, Nat.reduceMul, Nat.reduceLeDiff, Nat.reduceLT, Nat.reduceBEq, Nat.reduceBNe, reduceCtorEq, beq_self_eq_true, Int.toNat_natCast, List.length_map, List.length_nil, Int.reduceToNat, Int.reduceAdd, Int.reduceSub, Int.reduceMul, Int.reduceLT, Int.reduceLE, Int.reduceEq, Int.reduceBEq, Int.reduceNeg, decide_true, decide_false, Nat.le_max_left, Nat.le_max_right, ne_eq, not_true_eq_false, not_false_eq_true, Int.natCast_zero, gt_iff_lt, ge_iff_le, Int.reduceGT, Int.reduceGE, Bool.false_and, Bool.and_false, Bool.true_and, Bool.and_true, ir29, eK, vpS M rfl, vpS M2 rfl, h, bent, len_eI, one_eI, x0, x1, x2, x3, x4, x5, x6, closed_eI, List.map_append, List.all_append, Nat.le_refl]
  · rw [h] at M
    have x0 : ¬ c.reps.length ≤ 0 := by omega
    have x1 : c.reps.length * 8 ≤ 140737488355328 ∧ c.reps.length ≤ 9223372036854775807 := by omega
    have x2 : ¬ c.reps.length + 2 ≤ c.reps.length := by omega
    have x3 : (c.reps.length + 2) * 8 ≤ 140737488355328 ∧ c.reps.length + 2 ≤ 9223372036854775807 ∧ c.reps.length ≤ 9223372036854775806 ∧ c.reps.length ≤ 9223372036854775805 := by omega
    have x4 : List.take c.reps.length (c.reps.map eI) = c.reps.map eI := List.take_of_length_le (by simp)
    have x5 : List.take (c.reps.length + 2) (c.reps.map eI ++ [[dI 0], [dI b]]) = c.reps.map eI ++ [[dI 0], [dI b]] := List.take_of_length_le (by simp)
    have x6 : (c.reps.map eI ++ [[dI 0], [dI b]]).length = c.reps.length + 2 := by simp
    simp -implicitDefEqProofs only [go_sem, ↓reduceIte, Nat.reduceEqDiff, Nat.reduceAdd, Nat.reduceSub, Nat.reduceMul, Nat.reduceLeDiff, Nat.reduceLT, Nat.reduceBEq, Nat.reduceBNe, reduceCtorEq, beq_self_eq_true, Int.toNat_natCast, List.length_map, List.length_nil, Int.reduceToNat, Int.reduceAdd, Int.reduceSub, Int.reduceMul, Int.reduceLT, Int.reduceLE, Int.reduceEq, Int.reduceBEq, Int.reduceNeg, decide_true, decide_false, Nat.le_max_left, Nat.le_max_right, ne_eq, not_true_eq_false, not_false_eq_true, Int.natCast_zero, gt_iff_lt, ge_iff_le, Int.reduceGT, Int.reduceGE, Bool.false_and, Bool.and_false, Bool.true_and, Bool.and_true, ir29, eK, vpS M rfl, vpS M2 rfl, h, bent, len_eI, one_eI, x0, x1, x2, x3, x4, x5, x6, closed_eI, List.map_append, List.all_append, Nat.le_refl]
  · rw [h] at M
    have x0 : ¬ c.obs.length ≤ 0 := by omega
    have x1 : c.obs.length * 8 ≤ 140737488355328 ∧ c.obs.length ≤ 9223372036854775807 := by omega
    have x2 : ¬ c.obs.length + 1 ≤ c.obs.length := by omega
    have x3 : (c.obs.length + 1) * 8 ≤ 140737488355328 ∧ c.obs.length + 1 ≤ 9223372036854775807 ∧ c.obs.length ≤ 9223372036854775806 ∧ c.obs.length ≤ 9223372036854775805 := by omega
    have x4 : List.take c.obs.length (c.obs.map eI) = c.obs.map eI := List.take_of_length_le (by simp)
    have x5 : List.take (c.obs.length + 1) (c.obs.map eI ++ [[dI b]]) = c.obs.map eI ++ [[dI b]] := List.take_of_length_le (by simp)
    have x6 : (c.obs.map eI ++ [[dI b]]).length = c.obs.length + 1 := by simp
    simp -implicitDefEqProofs only [go_sem, ↓reduceIte, Nat.reduceEqDiff, Nat.reduceAdd, Nat.reduceSub, Nat.reduceMul, Nat.reduceLeDiff, Nat.reduceLT, Nat.reduceBEq, Nat.reduceBNe, reduceCtorEq, beq_self_eq_true, Int.toNat_natCast, List.length_map, List.length_nil, Int.reduceToNat, Int.reduceAdd, Int.reduceSub, Int.reduceMul, Int.reduceLT, Int.reduceLE, Int.reduceEq, Int.reduceBEq, Int.reduceNeg, decide_true, decide_false, Nat.le_max_left, Nat.le_max_right, ne_eq, not_true_eq_false, not_false_eq_true, Int.natCast_zero, gt_iff_lt, ge_iff_le, Int.reduceGT, Int.reduceGE, Bool.false_and, Bool.and_false, Bool.true_and, Bool.and_true, ir29, eK, vpS M rfl, vpS M2 rfl, h, bent, len_eI, one_eI, x0, x1, x2, x3, x4, x5, x6, closed_eI, List.map_append, List.all_append, Nat.le_refl]
  · rw [h] at M
    have x0 : ¬ c.vers.length ≤ 0 := by omega
    have x1 : c.vers.length * 16 ≤ 140737488355328 ∧ c.vers.length ≤ 9223372036854775807 := by omega
    have x2 : ¬ c.vers.length + 1 ≤ c.vers.length := by omega
    have x3 : (c.vers.length + 1) * 16 ≤ 140737488355328 ∧ c.vers.length + 1 ≤ 9223372036854775807 ∧ c.vers.length ≤ 9223372036854775806 ∧ c.vers.length ≤ 9223372036854775805 := by omega
    have x4 : List.take c.vers.length (c.vers.map eV) = c.vers.map eV := List.take_of_length_le (by simp)
    have x5 : List.take (c.vers.length + 1) (c.vers.map eV ++ [[dI (b % 3), dI b]]) = c.vers.map eV ++ [[dI (b % 3), dI b]] := List.take_of_length_le (by simp)
    have x6 : (c.vers.map eV ++ [[dI (b % 3), dI b]]).length = c.vers.length + 1 := by simp
    simp -implicitDefEqProofs only [go_sem, ↓reduceIte, Nat.reduceEqDiff, Nat.reduceAdd, Nat.reduceSub, Nat.reduceMul, Nat.reduceLeDiff, Nat.reduceLT, Nat.reduceBEq, Nat.reduceBNe, reduceCtorEq, beq_self_eq_true, Int.toNat_natCast, List.length_map, List.length_nil, Int.reduceToNat, Int.reduceAdd, Int.reduceSub, Int.reduceMul, Int.reduceLT, Int.reduceLE, Int.reduceEq, Int.reduceBEq, Int.reduceNeg, decide_true, decide_false, Nat.le_max_left, Nat.le_max_right, ne_eq, not_true_eq_false, not_false_eq_true, Int.natCast_zero, gt_iff_lt, ge_iff_le, Int.reduceGT, Int.reduceGE, Bool.false_and, Bool.and_false, Bool.true_and, Bool.and_true, ir29, eK, vpS M rfl, vpS M2 rfl, h, bent, len_eV, one_eV, x0, x1, x2, x3, x4, x5, x6, closed_eV, List.map_append, List.all_append, Nat.le_refl, vpS M3 rfl]
  · rw [h] at M
    simp -implicitDefEqProofs only [go_sem, ↓reduceIte, Nat.reduceEqDiff, Nat.reduceAdd, Nat.reduceSub, Nat.reduceMul, Nat.reduceLeDiff, Nat.reduceLT, Nat.reduceBEq, Nat.reduceBNe, reduceCtorEq, beq_self_eq_true, Int.toNat_natCast, List.length_map, List.length_nil, Int.reduceToNat, Int.reduceAdd, Int.reduceSub, Int.reduceMul, Int.reduceLT, Int.reduceLE, Int.reduceEq, Int.reduceBEq, Int.reduceNeg, decide_true, decide_false, Nat.le_max_left, Nat.le_max_right, ne_eq, not_true_eq_false, not_false_eq_true, Int.natCast_zero, gt_iff_lt, ge_iff_le, Int.reduceGT, Int.reduceGE, Bool.false_and, Bool.and_false, Bool.true_and, Bool.and_true, ir29, eK, vpS M rfl, vpS M2 rfl, h, bent]
  · rw [h] at M
    simp -implicitDefEqProofs only [go_sem, ↓reduceIte, Nat.reduceEqDiff, Nat.reduceAdd, Nat.reduceSub, Nat.reduceMul, Nat.reduceLeDiff, Nat.reduceLT, Nat.reduceBEq, Nat.reduceBNe, reduceCtorEq, beq_self_eq_true, Int.toNat_natCast, List.length_map, List.length_nil, Int.reduceToNat, Int.reduceAdd, Int.reduceSub, Int.reduceMul, Int.reduceLT, Int.reduceLE, Int.reduceEq, Int.reduceBEq, Int.reduceNeg, decide_true, decide_false, Nat.le_max_left, Nat.le_max_right, ne_eq, not_true_eq_false, not_false_eq_true, Int.natCast_zero, gt_iff_lt, ge_iff_le, Int.reduceGT, Int.reduceGE, Bool.false_and, Bool.and_false, Bool.true_and, Bool.and_true, ir29, eK, vpS M rfl, vpS M2 rfl, h, bent]
  · rw [h] at M
    simp -implicitDefEqProofs only [go_sem, ↓reduceIte, Nat.reduceEqDiff, Nat.reduceAdd, Nat.reduceSub, Nat.reduceMul, Nat.reduceLeDiff, Nat.reduceLT, Nat.reduceBEq, Nat.reduceBNe, reduceCtorEq, beq_self_eq_true, Int.toNat_natCast, List.length_map, List.length_nil, Int.reduceToNat, Int.reduceAdd, Int.reduceSub, Int.reduceMul, Int.reduceLT, Int.reduceLE, Int.reduceEq, Int.reduceBEq, Int.reduceNeg, decide_true, decide_false, Nat.le_max_left, Nat.le_max_right, ne_eq, not_true_eq_false, not_false_eq_true, Int.natCast_zero, gt_iff_lt, ge_iff_le, Int.reduceGT, Int.reduceGE, Bool.false_and, Bool.and_false, Bool.true_and, Bool.and_true, ir29, eK, vpS M rfl, vpS M2 rfl, h, bent]
  · rw [h] at M
    by_cases ht : c.tens.length = 0
    · have ht : c.tens = [] := List.eq_nil_of_length_eq_zero ht
      simp -implicitDefEqProofs only [go_sem, ↓reduceIte, Nat.reduceEqDiff, Nat.reduceAdd, Nat.reduceSub, Nat.reduceMul, Nat.reduceLeDiff, Nat.reduceLT, Nat.reduceBEq, Nat.reduceBNe, reduceCtorEq, beq_self_eq_true, Int.toNat_natCast, List.length_map, List.length_nil, Int.reduceToNat, Int.reduceAdd, Int.reduceSub, Int.reduceMul, Int.reduceLT, Int.reduceLE, Int.reduceEq, Int.reduceBEq, Int.reduceNeg, decide_true, decide_false, Nat.le_max_left, Nat.le_max_right, ne_eq, not_true_eq_false, not_false_eq_true, Int.natCast_zero, gt_iff_lt, ge_iff_le, Int.reduceGT, Int.reduceGE, Bool.false_and, Bool.and_false, Bool.true_and, Bool.and_true, ir29, eK, vpS M rfl, vpS M2 rfl, h, bent, ht, List.map_append, List.map_nil, List.nil_append]
    · have x0 : ¬ c.tens.length ≤ 0 := by omega
      have x1 : c.tens.length * 56 ≤ 140737488355328 ∧ c.tens.length ≤ 9223372036854775807 := by omega
      have x2 : ¬ c.tens.length + 1 ≤ c.tens.length := by omega
      have x3 : (c.tens.length + 1) * 56 ≤ 140737488355328 ∧ c.tens.length + 1 ≤ 9223372036854775807 ∧ c.tens.length ≤ 9223372036854775806 ∧ c.tens.length ≤ 9223372036854775805 := by omega
      have x4 : List.take c.tens.length (c.tens.map eT) = c.tens.map eT := List.take_of_length_le (by simp)
      have x5 : List.take (c.tens.length + 1) (c.tens.map eT ++ [[dI b, dI 0, dI 0, dI 0, dI 1, dI 0, dB false]]) = c.tens.map eT ++ [[dI b, dI 0, dI 0, dI 0, dI 1, dI 0, dB false]] := List.take_of_length_le (by simp)
      have x6 : (c.tens.map eT ++ [[dI b, dI 0, dI 0, dI 0, dI 1, dI 0, dB false]]).length = c.tens.length + 1 := by simp
      simp -implicitDefEqProofs only [go_sem, ↓reduceIte, Nat.reduceEqDiff, Nat.reduceAdd, Nat.reduceSub, Nat.reduceMul, Nat.reduceLeDiff, Nat.reduceLT, Nat.reduceBEq, Nat.reduceBNe, reduceCtorEq, beq_self_eq_true, Int.toNat_natCast, List.length_map, List.length_nil, Int.reduceToNat, Int.reduceAdd, Int.reduceSub, Int.reduceMul, Int.reduceLT, Int.reduceLE, Int.reduceEq, Int.reduceBEq, Int.reduceNeg, decide_true, decide_false, Nat.le_max_left, Nat.le_max_right, ne_eq, not_true_eq_false, not_false_eq_true, Int.natCast_zero, gt_iff_lt, ge_iff_le, Int.reduceGT, Int.reduceGE, Bool.false_and, Bool.and_false, Bool.true_and, Bool.and_true, ir29, eK, vpS M rfl, vpS M2 rfl, h, bent, len_eT, one_eT, x0, x1, x2, x3, x4, x5, x6, closed_eT, List.map_append, List.all_append, Nat.le_refl]
  · rw [h] at M
    by_cases ht : c.tens.length = 0
    · have ht : c.tens = [] := List.eq_nil_of_length_eq_zero ht
      simp -implicitDefEqProofs only [go_sem, ↓reduceIte, Nat.reduceEqDiff, Nat.reduceAdd, Nat.reduceSub, Nat.reduceMul, Nat.reduceLeDiff, Nat.reduceLT, Nat.reduceBEq, Nat.reduceBNe, reduceCtorEq, beq_self_eq_true, Int.toNat_natCast, List.length_map, List.length_nil, Int.reduceToNat, Int.reduceAdd, Int.reduceSub, Int.reduceMul, Int.reduceLT, Int.reduceLE, Int.reduceEq, Int.reduceBEq, Int.reduceNeg, decide_true, decide_false, Nat.le_max_left, Nat.le_max_right, ne_eq, not_true_eq_false, not_false_eq_true, Int.natCast_zero, gt_iff_lt, ge_iff_le, Int.reduceGT, Int.reduceGE, Bool.false_and, Bool.and_false, Bool.true_and, Bool.and_true, ir29, eK, vpS M rfl, vpS M2 rfl, h, bent, ht, List.map_append, List.map_nil, List.nil_append]
    · have x0 : ¬ c.tens.length ≤ 0 := by omega
      have x1 : c.tens.length * 56 ≤ 140737488355328 ∧ c.tens.length ≤ 9223372036854775807 := by omega
      have x2 : ¬ c.tens.length + 1 ≤ c.tens.length := by omega
      have x3 : (c.tens.length + 1) * 56 ≤ 140737488355328 ∧ c.tens.length + 1 ≤ 9223372036854775807 ∧ c.tens.length ≤ 9223372036854775806 ∧ c.tens.length ≤ 9223372036854775805 := by omega
      have x4 : List.take c.tens.length (c.tens.map eT) = c.tens.map eT := List.take_of_length_le (by simp)
      have x5 : List.take (c.tens.length + 1) (c.tens.map eT ++ [[dI 5, dI 3, dI 0, dI 0, dI b, dI 0, dB false]]) = c.tens.map eT ++ [[dI 5, dI 3, dI 0, dI 0, dI b, dI 0, dB false]] := List.take_of_length_le (by simp)
      have x6 : (c.tens.map eT ++ [[dI 5, dI 3, dI 0, dI 0, dI b, dI 0, dB false]]).length = c.tens.length + 1 := by simp
      simp -implicitDefEqProofs only [go_sem, ↓reduceIte, Nat.reduceEqDiff, Nat.reduceAdd, Nat.reduceSub, Nat.reduceMul, Nat.reduceLeDiff, Nat.reduceLT, Nat.reduceBEq, Nat.reduceBNe, reduceCtorEq, beq_self_eq_true, Int.toNat_natCast, List.length_map, List.length_nil, Int.reduceToNat, Int.reduceAdd, Int.reduceSub, Int.reduceMul, Int.reduceLT, Int.reduceLE, Int.reduceEq, Int.reduceBEq, Int.reduceNeg, decide_true, decide_false, Nat.le_max_left, Nat.le_max_right, ne_eq, not_true_eq_false, not_false_eq_true, Int.natCast_zero, gt_iff_lt, ge_iff_le, Int.reduceGT, Int.reduceGE, Bool.false_and, Bool.and_false, Bool.true_and, Bool.and_true, ir29, eK, vpS M rfl, vpS M2 rfl, h, bent, len_eT, one_eT, x0, x1, x2, x3, x4, x5, x6, closed_eT, List.map_append, List.all_append, Nat.le_refl]
  · rw [h] at M
    by_cases ht : c.tens.length = 0
    · have ht : c.tens = [] := List.eq_nil_of_length_eq_zero ht
      simp -implicitDefEqProofs only [go_sem, ↓reduceIte, Nat.reduceEqDiff, Nat.reduceAdd, Nat.reduceSub, Nat.reduceMul, Nat.reduceLeDiff, Nat.reduceLT, Nat.reduceBEq, Nat.reduceBNe, reduceCtorEq, beq_self_eq_true, Int.toNat_natCast, List.length_map, List.length_nil, Int.reduceToNat, Int.reduceAdd, Int.reduceSub, Int.reduceMul, Int.reduceLT, Int.reduceLE, Int.reduceEq, Int.reduceBEq, Int.reduceNeg, decide_true, decide_false, Nat.le_max_left, Nat.le_max_right, ne_eq, not_true_eq_false, not_false_eq_true, Int.natCast_zero, gt_iff_lt, ge_iff_le, Int.reduceGT, Int.reduceGE, Bool.false_and, Bool.and_false, Bool.true_and, Bool.and_true, ir29, eK, vpS M rfl, vpS M2 rfl, h, bent, ht, List.map_append, List.map_nil, List.nil_append, vpS M4 rfl, w4]
    · have x0 : ¬ c.tens.length ≤ 0 := by omega
      have x1 : c.tens.length * 56 ≤ 140737488355328 ∧ c.tens.length ≤ 9223372036854775807 := by omega
      have x2 : ¬ c.tens.length + 1 ≤ c.tens.length := by omega
      have x3 : (c.tens.length + 1) * 56 ≤ 140737488355328 ∧ c.tens.length + 1 ≤ 9223372036854775807 ∧ c.tens.length ≤ 9223372036854775806 ∧ c.tens.length ≤ 9223372036854775805 := by omega
      have x4 : List.take c.tens.length (c.tens.map eT) = c.tens.map eT := List.take_of_length_le (by simp)
      have x5 : List.take (c.tens.length + 1) (c.tens.map eT ++ [[dI 5, dI b, dI 0, dI (b % 4 - 2), dI 1, dI 0, dB false]]) = c.tens.map eT ++ [[dI 5, dI b, dI 0, dI (b % 4 - 2), dI 1, dI 0, dB false]] := List.take_of_length_le (by simp)
      have x6 : (c.tens.map eT ++ [[dI 5, dI b, dI 0, dI (b % 4 - 2), dI 1, dI 0, dB false]]).length = c.tens.length + 1 := by simp
      simp -implicitDefEqProofs only [go_sem, ↓reduceIte, Nat.reduceEqDiff, Nat.reduceAdd, Nat.reduceSub, Nat.reduceMul, Nat.reduceLeDiff, Nat.reduceLT, Nat.reduceBEq, Nat.reduceBNe, reduceCtorEq, beq_self_eq_true, Int.toNat_natCast, List.length_map, List.length_nil, Int.reduceToNat, Int.reduceAdd, Int.reduceSub, Int.reduceMul, Int.reduceLT, Int.reduceLE, Int.reduceEq, Int.reduceBEq, Int.reduceNeg, decide_true, decide_false, Nat.le_max_left, Nat.le_max_right, ne_eq, not_true_eq_false, not_false_eq_true, Int.natCast_zero, gt_iff_lt, ge_iff_le, Int.reduceGT, Int.reduceGE, Bool.false_and, Bool.and_false, Bool.true_and, Bool.and_true, ir29, eK, vpS M rfl, vpS M2 rfl, h, bent, len_eT, one_eT, x0, x1, x2, x3, x4, x5, x6, closed_eT, List.map_append, List.all_append, Nat.le_refl, vpS M4 rfl, w4]
theorem FV_between (n lo hi : Int) : FV PP shF 77 [dI n, dI lo, dI hi] = some (dB (decide (lo ≤ n) && decide (n ≤ hi))) := by
  refine FV_ok (F_ok PP77 rfl ⟨by simp [ir77], by simp⟩ ?_)
  by_cases h : lo ≤ n
  · simp -implicitDefEqProofs only [go_sem, ↓reduceIte, Nat.reduceEqDiff, Nat.reduceAdd, Nat.reduceSub, Nat.reduceMul, Nat.reduceLeDiff, Nat.reduceLT, Nat.reduceBEq, Nat.reduceBNe, reduceCtorEq, beq_self_eq_true, Int.toNat_natCast, List.length_map, List.length_nil, Int.reduceToNat, Int.reduceAdd, Int.reduceSub, Int.reduceMul, Int.reduceLT, Int.reduceLE, Int.reduceEq, Int.reduceBEq, Int.reduceNeg, decide_true, decide_false, Nat.le_max_left, Nat.le_max_right, ne_eq, not_true_eq_false, not_false_eq_true, Int.natCast_zero, gt_iff_lt, ge_iff_le, Int.reduceGT, Int.reduceGE, Bool.false_and, Bool.and_false, Bool.true_and, Bool.and_true, ir77, h]
  · simp -implicitDefEqProofs only [go_sem, ↓reduceIte, Nat.reduceEqDiff, Nat.reduceAdd, Nat.reduceSub, Nat.reduceMul, Nat.reduceLeDiff, Nat.reduceLT, Nat.reduceBEq, Nat.reduceBNe, reduceCtorEq, beq_self_eq_true, Int.toNat_natCast, List.length_map, List.length_nil, Int.reduceToNat, Int.reduceAdd, Int.reduceSub, Int.reduceMul, Int.reduceLT, Int.reduceLE, Int.reduceEq, Int.reduceBEq, Int.reduceNeg, decide_true, decide_false, Nat.le_max_left, Nat.le_max_right, ne_eq, not_true_eq_false, not_false_eq_true, Int.natCast_zero, gt_iff_lt, ge_iff_le, Int.reduceGT, Int.reduceGE, Bool.false_and, Bool.and_false, Bool.true_and, Bool.and_true, ir77, h]
def rightB (W : Int) (t : Ten) : Bool := inB t.load 1 65536 && inB t.shadow 0 t.load && inB t.prio 0 9 && inB t.lag (-1) 1000 && (decide (1 ≤ t.allowed) && decide (t.allowed < W)) && inB t.group 0 32
def wid (c : Conf) : Int := 2 ^ c.regions.toNat
theorem wid_eq {R : Int} (h : 1 ≤ R ∧ R ≤ 4) : IntKind.wrap .i64 (1 * 2 ^ min R.toNat 64) = 2 ^ R.toNat ∧ (2 : Int) ^ R.toNat ≤ 16 ∧ (2 : Int) ≤ 2 ^ R.toNat := by
  obtain ⟨h1, h2⟩ := h
  obtain rfl | rfl | rfl | rfl : R = 1 ∨ R = 2 ∨ R = 3 ∨ R = 4 := by omega
  all_goals exact ⟨rfl, by decide, by decide⟩
theorem FV_right (c : Conf) (hr : 1 ≤ c.regions ∧ c.regions ≤ 4) (t : Ten) : FV PP shF 114 [.agg (eK c), .agg (eT t)] = some (dB (rightB (wid c) t)) := by
  obtain ⟨hs, hw1, hw2⟩ := wid_eq hr
  have nr : ¬ c.regions < 0 := by omega
  have w1 : IntKind.wrap .i64 (wid c - 1) = wid c - 1 := by unfold wid; exact w64 (by omega) (by omega)
  rw [show (2 : Int) ^ c.regions.toNat = wid c from rfl] at hs hw1 hw2
  have B1 := FV_between t.load 1 65536
  have B2 := FV_between t.shadow 0 t.load
  have B3 := FV_between t.prio 0 9
  have B4 := FV_between t.lag (-1) 1000
  have B5 := FV_between t.allowed 1 (wid c - 1)
  have B6 := FV_between t.group 0 32
  have h5 : (decide (1 ≤ t.allowed) && decide (t.allowed ≤ wid c - 1)) = (decide (1 ≤ t.allowed) && decide (t.allowed < wid c)) := by
    congr 1
    rw [Bool.eq_iff_iff]
    simp only [decide_eq_true_eq]
    omega
  rw [h5] at B5
  refine FV_ok (F_ok PP114 rfl ⟨by simp [ir114], by simp⟩ ?_)
  unfold rightB inB
  generalize (decide (1 ≤ t.load) && decide (t.load ≤ 65536)) = r1 at *
  generalize (decide (0 ≤ t.shadow) && decide (t.shadow ≤ t.load)) = r2 at *
  generalize (decide (0 ≤ t.prio) && decide (t.prio ≤ 9)) = r3 at *
  generalize (decide (-1 ≤ t.lag) && decide (t.lag ≤ 1000)) = r4 at *
  generalize (decide (1 ≤ t.allowed) && decide (t.allowed < wid c)) = r5 at *
  generalize (decide (0 ≤ t.group) && decide (t.group ≤ 32)) = r6 at *
  cases r1
  · simp -implicitDefEqProofs only [go_sem, ↓reduceIte, Nat.reduceEqDiff, Nat.reduceAdd, Nat.reduceSub, Nat.reduceMul, Nat.reduceLeDiff, Nat.reduceLT, Nat.reduceBEq, Nat.reduceBNe, reduceCtorEq, beq_self_eq_true, Int.toNat_natCast, List.length_map, List.length_nil, Int.reduceToNat, Int.reduceAdd, Int.reduceSub, Int.reduceMul, Int.reduceLT, Int.reduceLE, Int.reduceEq, Int.reduceBEq, Int.reduceNeg, decide_true, decide_false, Nat.le_max_left, Nat.le_max_right, ne_eq, not_true_eq_false, not_false_eq_true, Int.natCast_zero, gt_iff_lt, ge_iff_le, Int.reduceGT, Int.reduceGE, Bool.false_and, Bool.and_false, Bool.true_and, Bool.and_true, ir114, eK, nr, hs, w1, vpS B1 rfl]
  cases r2
  · simp -implicitDefEqProofs only [go_sem, ↓reduceIte, Nat.reduceEqDiff, Nat.reduceAdd, Nat.reduceSub, Nat.reduceMul, Nat.reduceLeDiff, Nat.reduceLT, Nat.reduceBEq, Nat.reduceBNe, reduceCtorEq, beq_self_eq_true, Int.toNat_natCast, List.length_map, List.length_nil, Int.reduceToNat, Int.reduceAdd, Int.reduceSub, Int.reduceMul, Int.reduceLT, Int.reduceLE, Int.reduceEq, Int.reduceBEq, Int.reduceNeg, decide_true, decide_false, Nat.le_max_left, Nat.le_max_right, ne_eq, not_true_eq_false, not_false_eq_true, Int.natCast_zero, gt_iff_lt, ge_iff_le, Int.reduceGT, Int.reduceGE, Bool.false_and, Bool.and_false, Bool.true_and, Bool.and_true, ir114, eK, nr, hs, w1, vpS B1 rfl, vpS B2 rfl]
  cases r3
  · simp -implicitDefEqProofs only [go_sem, ↓reduceIte, Nat.reduceEqDiff, Nat.reduceAdd, Nat.reduceSub, Nat.reduceMul, Nat.reduceLeDiff, Nat.reduceLT, Nat.reduceBEq, Nat.reduceBNe, reduceCtorEq, beq_self_eq_true, Int.toNat_natCast, List.length_map, List.length_nil, Int.reduceToNat, Int.reduceAdd, Int.reduceSub, Int.reduceMul, Int.reduceLT, Int.reduceLE, Int.reduceEq, Int.reduceBEq, Int.reduceNeg, decide_true, decide_false, Nat.le_max_left, Nat.le_max_right, ne_eq, not_true_eq_false, not_false_eq_true, Int.natCast_zero, gt_iff_lt, ge_iff_le, Int.reduceGT, Int.reduceGE, Bool.false_and, Bool.and_false, Bool.true_and, Bool.and_true, ir114, eK, nr, hs, w1, vpS B1 rfl, vpS B2 rfl, vpS B3 rfl]
  cases r4
  · simp -implicitDefEqProofs only [go_sem, ↓reduceIte, Nat.reduceEqDiff, Nat.reduceAdd, Nat.reduceSub, Nat.reduceMul, Nat.reduceLeDiff, Nat.reduceLT, Nat.reduceBEq, Nat.reduceBNe, reduceCtorEq, beq_self_eq_true, Int.toNat_natCast, List.length_map, List.length_nil, Int.reduceToNat, Int.reduceAdd, Int.reduceSub, Int.reduceMul, Int.reduceLT, Int.reduceLE, Int.reduceEq, Int.reduceBEq, Int.reduceNeg, decide_true, decide_false, Nat.le_max_left, Nat.le_max_right, ne_eq, not_true_eq_false, not_false_eq_true, Int.natCast_zero, gt_iff_lt, ge_iff_le, Int.reduceGT, Int.reduceGE, Bool.false_and, Bool.and_false, Bool.true_and, Bool.and_true, ir114, eK, nr, hs, w1, vpS B1 rfl, vpS B2 rfl, vpS B3 rfl, vpS B4 rfl]
  cases r5
  · simp -implicitDefEqProofs only [go_sem, ↓reduceIte, Nat.reduceEqDiff, Nat.reduceAdd, Nat.reduceSub, Nat.reduceMul, Nat.reduceLeDiff, Nat.reduceLT, Nat.reduceBEq, Nat.reduceBNe, reduceCtorEq, beq_self_eq_true, Int.toNat_natCast, List.length_map, List.length_nil, Int.reduceToNat, Int.reduceAdd, Int.reduceSub, Int.reduceMul, Int.reduceLT, Int.reduceLE, Int.reduceEq, Int.reduceBEq, Int.reduceNeg, decide_true, decide_false, Nat.le_max_left, Nat.le_max_right, ne_eq, not_true_eq_false, not_false_eq_true, Int.natCast_zero, gt_iff_lt, ge_iff_le, Int.reduceGT, Int.reduceGE, Bool.false_and, Bool.and_false, Bool.true_and, Bool.and_true, ir114, eK, nr, hs, w1, vpS B1 rfl, vpS B2 rfl, vpS B3 rfl, vpS B4 rfl, vpS B5 rfl]
  cases r6
  · simp -implicitDefEqProofs only [go_sem, ↓reduceIte, Nat.reduceEqDiff, Nat.reduceAdd, Nat.reduceSub, Nat.reduceMul, Nat.reduceLeDiff, Nat.reduceLT, Nat.reduceBEq, Nat.reduceBNe, reduceCtorEq, beq_self_eq_true, Int.toNat_natCast, List.length_map, List.length_nil, Int.reduceToNat, Int.reduceAdd, Int.reduceSub, Int.reduceMul, Int.reduceLT, Int.reduceLE, Int.reduceEq, Int.reduceBEq, Int.reduceNeg, decide_true, decide_false, Nat.le_max_left, Nat.le_max_right, ne_eq, not_true_eq_false, not_false_eq_true, Int.natCast_zero, gt_iff_lt, ge_iff_le, Int.reduceGT, Int.reduceGE, Bool.false_and, Bool.and_false, Bool.true_and, Bool.and_true, ir114, eK, nr, hs, w1, vpS B1 rfl, vpS B2 rfl, vpS B3 rfl, vpS B4 rfl, vpS B5 rfl, vpS B6 rfl]
  simp -implicitDefEqProofs only [go_sem, ↓reduceIte, Nat.reduceEqDiff, Nat.reduceAdd, Nat.reduceSub, Nat.reduceMul, Nat.reduceLeDiff, Nat.reduceLT, Nat.reduceBEq, Nat.reduceBNe, reduceCtorEq, beq_self_eq_true, Int.toNat_natCast, List.length_map, List.length_nil, Int.reduceToNat, Int.reduceAdd, Int.reduceSub, Int.reduceMul, Int.reduceLT, Int.reduceLE, Int.reduceEq, Int.reduceBEq, Int.reduceNeg, decide_true, decide_false, Nat.le_max_left, Nat.le_max_right, ne_eq, not_true_eq_false, not_false_eq_true, Int.natCast_zero, gt_iff_lt, ge_iff_le, Int.reduceGT, Int.reduceGE, Bool.false_and, Bool.and_false, Bool.true_and, Bool.and_true, ir114, eK, nr, hs, w1, vpS B1 rfl, vpS B2 rfl, vpS B3 rfl, vpS B4 rfl, vpS B5 rfl, vpS B6 rfl]
theorem FV_declared (c : Conf) (hr : 1 ≤ c.regions ∧ c.regions ≤ 4) (t : Ten) : FV PP shF 115 [.agg (eK c), .agg (eT t)] = some (dB (rightB (wid c) t)) := by
  obtain ⟨hs, hw1, hw2⟩ := wid_eq hr
  have nr : ¬ c.regions < 0 := by omega
  have cu : IntKind.wrap .u64 c.regions = c.regions := wu64 (by omega) (by omega)
  rw [show (2 : Int) ^ c.regions.toNat = wid c from rfl] at hs hw1 hw2
  generalize wid c = W at *
  refine FV_ok (F_ok PP115 rfl ⟨by simp [ir115], by simp⟩ ?_)
  by_cases b1 : 1 ≤ t.load
  · by_cases b2 : t.load ≤ 65536
    · by_cases b3 : 0 ≤ t.shadow
      · by_cases b4 : t.shadow ≤ t.load
        · by_cases b5 : 0 ≤ t.prio
          · by_cases b6 : t.prio ≤ 9
            · by_cases b7 : -1 ≤ t.lag
              · by_cases b8 : t.lag ≤ 1000
                · by_cases b9 : 1 ≤ t.allowed
                  · by_cases b10 : t.allowed < W
                    · by_cases b11 : 0 ≤ t.group
                      · simp -implicitDefEqProofs only [go_sem, ↓reduceIte, Nat.reduceEqDiff, Nat.reduceAdd, Nat.reduceSub, Nat.reduceMul, Nat.reduceLeDiff, Nat.reduceLT, Nat.reduceBEq, Nat.reduceBNe, reduceCtorEq, beq_self_eq_true, Int.toNat_natCast, List.length_map, List.length_nil, Int.reduceToNat, Int.reduceAdd, Int.reduceSub, Int.reduceMul, Int.reduceLT, Int.reduceLE, Int.reduceEq, Int.reduceBEq, Int.reduceNeg, decide_true, decide_false, Nat.le_max_left, Nat.le_max_right, ne_eq, not_true_eq_false, not_false_eq_true, Int.natCast_zero, gt_iff_lt, ge_iff_le, Int.reduceGT, Int.reduceGE, Bool.false_and, Bool.and_false, Bool.true_and, Bool.and_true, ir115, eK, cu, nr, hs, rightB, inB, b1, b2, b3, b4, b5, b6, b7, b8, b9, b10, b11]
                      · simp -implicitDefEqProofs only [go_sem, ↓reduceIte, Nat.reduceEqDiff, Nat.reduceAdd, Nat.reduceSub, Nat.reduceMul, Nat.reduceLeDiff, Nat.reduceLT, Nat.reduceBEq, Nat.reduceBNe, reduceCtorEq, beq_self_eq_true, Int.toNat_natCast, List.length_map, List.length_nil, Int.reduceToNat, Int.reduceAdd, Int.reduceSub, Int.reduceMul, Int.reduceLT, Int.reduceLE, Int.reduceEq, Int.reduceBEq, Int.reduceNeg, decide_true, decide_false, Nat.le_max_left, Nat.le_max_right, ne_eq, not_true_eq_false, not_false_eq_true, Int.natCast_zero, gt_iff_lt, ge_iff_le, Int.reduceGT, Int.reduceGE, Bool.false_and, Bool.and_false, Bool.true_and, Bool.and_true, ir115, eK, cu, nr, hs, rightB, inB, b1, b2, b3, b4, b5, b6, b7, b8, b9, b10, b11]
                    · simp -implicitDefEqProofs only [go_sem, ↓reduceIte, Nat.reduceEqDiff, Nat.reduceAdd, Nat.reduceSub, Nat.reduceMul, Nat.reduceLeDiff, Nat.reduceLT, Nat.reduceBEq, Nat.reduceBNe, reduceCtorEq, beq_self_eq_true, Int.toNat_natCast, List.length_map, List.length_nil, Int.reduceToNat, Int.reduceAdd, Int.reduceSub, Int.reduceMul, Int.reduceLT, Int.reduceLE, Int.reduceEq, Int.reduceBEq, Int.reduceNeg, decide_true, decide_false, Nat.le_max_left, Nat.le_max_right, ne_eq, not_true_eq_false, not_false_eq_true, Int.natCast_zero, gt_iff_lt, ge_iff_le, Int.reduceGT, Int.reduceGE, Bool.false_and, Bool.and_false, Bool.true_and, Bool.and_true, ir115, eK, cu, nr, hs, rightB, inB, b1, b2, b3, b4, b5, b6, b7, b8, b9, b10]
                  · simp -implicitDefEqProofs only [go_sem, ↓reduceIte, Nat.reduceEqDiff, Nat.reduceAdd, Nat.reduceSub, Nat.reduceMul, Nat.reduceLeDiff, Nat.reduceLT, Nat.reduceBEq, Nat.reduceBNe, reduceCtorEq, beq_self_eq_true, Int.toNat_natCast, List.length_map, List.length_nil, Int.reduceToNat, Int.reduceAdd, Int.reduceSub, Int.reduceMul, Int.reduceLT, Int.reduceLE, Int.reduceEq, Int.reduceBEq, Int.reduceNeg, decide_true, decide_false, Nat.le_max_left, Nat.le_max_right, ne_eq, not_true_eq_false, not_false_eq_true, Int.natCast_zero, gt_iff_lt, ge_iff_le, Int.reduceGT, Int.reduceGE, Bool.false_and, Bool.and_false, Bool.true_and, Bool.and_true, ir115, eK, cu, nr, hs, rightB, inB, b1, b2, b3, b4, b5, b6, b7, b8, b9]
                · simp -implicitDefEqProofs only [go_sem, ↓reduceIte, Nat.reduceEqDiff, Nat.reduceAdd, Nat.reduceSub, Nat.reduceMul, Nat.reduceLeDiff, Nat.reduceLT, Nat.reduceBEq, Nat.reduceBNe, reduceCtorEq, beq_self_eq_true, Int.toNat_natCast, List.length_map, List.length_nil, Int.reduceToNat, Int.reduceAdd, Int.reduceSub, Int.reduceMul, Int.reduceLT, Int.reduceLE, Int.reduceEq, Int.reduceBEq, Int.reduceNeg, decide_true, decide_false, Nat.le_max_left, Nat.le_max_right, ne_eq, not_true_eq_false, not_false_eq_true, Int.natCast_zero, gt_iff_lt, ge_iff_le, Int.reduceGT, Int.reduceGE, Bool.false_and, Bool.and_false, Bool.true_and, Bool.and_true, ir115, eK, cu, nr, hs, rightB, inB, b1, b2, b3, b4, b5, b6, b7, b8]
              · simp -implicitDefEqProofs only [go_sem, ↓reduceIte, Nat.reduceEqDiff, Nat.reduceAdd, Nat.reduceSub, Nat.reduceMul, Nat.reduceLeDiff, Nat.reduceLT, Nat.reduceBEq, Nat.reduceBNe, reduceCtorEq, beq_self_eq_true, Int.toNat_natCast, List.length_map, List.length_nil, Int.reduceToNat, Int.reduceAdd, Int.reduceSub, Int.reduceMul, Int.reduceLT, Int.reduceLE, Int.reduceEq, Int.reduceBEq, Int.reduceNeg, decide_true, decide_false, Nat.le_max_left, Nat.le_max_right, ne_eq, not_true_eq_false, not_false_eq_true, Int.natCast_zero, gt_iff_lt, ge_iff_le, Int.reduceGT, Int.reduceGE, Bool.false_and, Bool.and_false, Bool.true_and, Bool.and_true, ir115, eK, cu, nr, hs, rightB, inB, b1, b2, b3, b4, b5, b6, b7]
            · simp -implicitDefEqProofs only [go_sem, ↓reduceIte, Nat.reduceEqDiff, Nat.reduceAdd, Nat.reduceSub, Nat.reduceMul, Nat.reduceLeDiff, Nat.reduceLT, Nat.reduceBEq, Nat.reduceBNe, reduceCtorEq, beq_self_eq_true, Int.toNat_natCast, List.length_map, List.length_nil, Int.reduceToNat, Int.reduceAdd, Int.reduceSub, Int.reduceMul, Int.reduceLT, Int.reduceLE, Int.reduceEq, Int.reduceBEq, Int.reduceNeg, decide_true, decide_false, Nat.le_max_left, Nat.le_max_right, ne_eq, not_true_eq_false, not_false_eq_true, Int.natCast_zero, gt_iff_lt, ge_iff_le, Int.reduceGT, Int.reduceGE, Bool.false_and, Bool.and_false, Bool.true_and, Bool.and_true, ir115, eK, cu, nr, hs, rightB, inB, b1, b2, b3, b4, b5, b6]
          · simp -implicitDefEqProofs only [go_sem, ↓reduceIte, Nat.reduceEqDiff, Nat.reduceAdd, Nat.reduceSub, Nat.reduceMul, Nat.reduceLeDiff, Nat.reduceLT, Nat.reduceBEq, Nat.reduceBNe, reduceCtorEq, beq_self_eq_true, Int.toNat_natCast, List.length_map, List.length_nil, Int.reduceToNat, Int.reduceAdd, Int.reduceSub, Int.reduceMul, Int.reduceLT, Int.reduceLE, Int.reduceEq, Int.reduceBEq, Int.reduceNeg, decide_true, decide_false, Nat.le_max_left, Nat.le_max_right, ne_eq, not_true_eq_false, not_false_eq_true, Int.natCast_zero, gt_iff_lt, ge_iff_le, Int.reduceGT, Int.reduceGE, Bool.false_and, Bool.and_false, Bool.true_and, Bool.and_true, ir115, eK, cu, nr, hs, rightB, inB, b1, b2, b3, b4, b5]
        · simp -implicitDefEqProofs only [go_sem, ↓reduceIte, Nat.reduceEqDiff, Nat.reduceAdd, Nat.reduceSub, Nat.reduceMul, Nat.reduceLeDiff, Nat.reduceLT, Nat.reduceBEq, Nat.reduceBNe, reduceCtorEq, beq_self_eq_true, Int.toNat_natCast, List.length_map, List.length_nil, Int.reduceToNat, Int.reduceAdd, Int.reduceSub, Int.reduceMul, Int.reduceLT, Int.reduceLE, Int.reduceEq, Int.reduceBEq, Int.reduceNeg, decide_true, decide_false, Nat.le_max_left, Nat.le_max_right, ne_eq, not_true_eq_false, not_false_eq_true, Int.natCast_zero, gt_iff_lt, ge_iff_le, Int.reduceGT, Int.reduceGE, Bool.false_and, Bool.and_false, Bool.true_and, Bool.and_true, ir115, eK, cu, nr, hs, rightB, inB, b1, b2, b3, b4]
      · simp -implicitDefEqProofs only [go_sem, ↓reduceIte, Nat.reduceEqDiff, Nat.reduceAdd, Nat.reduceSub, Nat.reduceMul, Nat.reduceLeDiff, Nat.reduceLT, Nat.reduceBEq, Nat.reduceBNe, reduceCtorEq, beq_self_eq_true, Int.toNat_natCast, List.length_map, List.length_nil, Int.reduceToNat, Int.reduceAdd, Int.reduceSub, Int.reduceMul, Int.reduceLT, Int.reduceLE, Int.reduceEq, Int.reduceBEq, Int.reduceNeg, decide_true, decide_false, Nat.le_max_left, Nat.le_max_right, ne_eq, not_true_eq_false, not_false_eq_true, Int.natCast_zero, gt_iff_lt, ge_iff_le, Int.reduceGT, Int.reduceGE, Bool.false_and, Bool.and_false, Bool.true_and, Bool.and_true, ir115, eK, cu, nr, hs, rightB, inB, b1, b2, b3]
    · simp -implicitDefEqProofs only [go_sem, ↓reduceIte, Nat.reduceEqDiff, Nat.reduceAdd, Nat.reduceSub, Nat.reduceMul, Nat.reduceLeDiff, Nat.reduceLT, Nat.reduceBEq, Nat.reduceBNe, reduceCtorEq, beq_self_eq_true, Int.toNat_natCast, List.length_map, List.length_nil, Int.reduceToNat, Int.reduceAdd, Int.reduceSub, Int.reduceMul, Int.reduceLT, Int.reduceLE, Int.reduceEq, Int.reduceBEq, Int.reduceNeg, decide_true, decide_false, Nat.le_max_left, Nat.le_max_right, ne_eq, not_true_eq_false, not_false_eq_true, Int.natCast_zero, gt_iff_lt, ge_iff_le, Int.reduceGT, Int.reduceGE, Bool.false_and, Bool.and_false, Bool.true_and, Bool.and_true, ir115, eK, cu, nr, hs, rightB, inB, b1, b2]
  · simp -implicitDefEqProofs only [go_sem, ↓reduceIte, Nat.reduceEqDiff, Nat.reduceAdd, Nat.reduceSub, Nat.reduceMul, Nat.reduceLeDiff, Nat.reduceLT, Nat.reduceBEq, Nat.reduceBNe, reduceCtorEq, beq_self_eq_true, Int.toNat_natCast, List.length_map, List.length_nil, Int.reduceToNat, Int.reduceAdd, Int.reduceSub, Int.reduceMul, Int.reduceLT, Int.reduceLE, Int.reduceEq, Int.reduceBEq, Int.reduceNeg, decide_true, decide_false, Nat.le_max_left, Nat.le_max_right, ne_eq, not_true_eq_false, not_false_eq_true, Int.natCast_zero, gt_iff_lt, ge_iff_le, Int.reduceGT, Int.reduceGE, Bool.false_and, Bool.and_false, Bool.true_and, Bool.and_true, ir115, eK, cu, nr, hs, rightB, inB, b1]
def qT (c : Conf) (i : Nat) : Bool := rightB (wid c) (c.tens.getD i ⟨0, 0, 0, 0, 0, 0, false⟩)
def validT (c : Conf) : Int := if validN c = 0 then (if allN (qT c) c.tens.length = true then 0 else 1) else validN c
theorem validN_lim {c : Conf} (h : validN c = 0) : limB c = true := by
  unfold validN at h
  cases hl : limB c with
  | true => rfl
  | false => rw [hl] at h; simp at h
def L103 (c : Conf) (k : Nat) (w : VSt) : Prop := gt .bad w.E 1 = .mp 1 1 0 0 ∧ hg w.H 1 = ⟨1, 0, true, [eK c]⟩ ∧ gt .bad w.E 12 = .sl (c.tens.map eT) ∧ gt .bad w.E 13 = dI (c.tens.length : Nat) ∧ gt .bad w.E 14 = dI (k : Nat) ∧ k ≤ c.tens.length ∧ allN (qT c) k = true
theorem tvalid_l0 (c : Conf) (hc : Lens c) (hr : 1 ≤ c.regions ∧ c.regions ≤ 4) : ∀ k w, L103 c k w → Ok (R PP shF 0 23 (.loop ir103_l0) w) (fun e w => (e = .exit 0 ∧ allN (qT c) c.tens.length = true) ∨ (e = .ret ∧ allN (qT c) c.tens.length = false ∧ gt .bad w.E 2 = dI 1)) := by
  refine Ok_up c.tens.length (L103 c) fun k w hI => ?_
  obtain ⟨E, H⟩ := w
  obtain ⟨e1, h1, e12, e13, e14, hk, ha⟩ := hI
  simp only at e1 h1 e12 e13 e14
  have ht := hc.t
  have w1 : IntKind.wrap .i64 ((k : Int) + 1) = ((k + 1 : Nat) : Int) := by rw [w64 (by omega) (by omega)]; rfl
  by_cases hlt : k < c.tens.length
  · have d1 : decide ((k : Int) < (c.tens.length : Int)) = true := by simp; omega
    have q1 : (k : Int) < (c.tens.length : Int) := by omega
    have q0 : (0 : Int) ≤ (k : Int) := by omega
    have g1 := getD_at (l := c.tens) (i := k) (d := ⟨0, 0, 0, 0, 0, 0, false⟩) hlt
    have B := FV_right c hr (c.tens.getD k ⟨0, 0, 0, 0, 0, 0, false⟩)
    rw [show rightB (wid c) (c.tens.getD k ⟨0, 0, 0, 0, 0, 0, false⟩) = qT c k from rfl] at B
    cases hb : qT c k with
    | true =>
      rw [hb] at B
      simp -implicitDefEqProofs only [go_sem, ↓reduceIte, Nat.reduceEqDiff, Nat.reduceAdd, Nat.reduceSub, Nat.reduceMul, Nat.reduceLeDiff, Nat.reduceLT, Nat.reduceBEq, Nat.reduceBNe, reduceCtorEq, beq_self_eq_true, Int.toNat_natCast, List.length_map, List.length_nil, Int.reduceToNat, Int.reduceAdd, Int.reduceSub, Int.reduceMul, Int.reduceLT, Int.reduceLE, Int.reduceEq, Int.reduceBEq, Int.reduceNeg, decide_true, decide_false, Nat.le_max_left, Nat.le_max_right, ne_eq, not_true_eq_false, not_false_eq_true, Int.natCast_zero, gt_iff_lt, ge_iff_le, Int.reduceGT, Int.reduceGE, Bool.false_and, Bool.and_false, Bool.true_and, Bool.and_true, ir103_l0, eK, eT, e1, h1, e12, e13, e14, d1, q0, q1, g1, w1, vpS B rfl]
      refine .next hlt ⟨?_, ?_, ?_, ?_, ?_, by omega, allN_next ha hb⟩ <;> simp -implicitDefEqProofs only [go_sem, ↓reduceIte, Nat.reduceEqDiff, Nat.reduceAdd, Nat.reduceSub, Nat.reduceMul, Nat.reduceLeDiff, Nat.reduceLT, Nat.reduceBEq, Nat.reduceBNe, reduceCtorEq, beq_self_eq_true, Int.toNat_natCast, List.length_map, List.length_nil, Int.reduceToNat, Int.reduceAdd, Int.reduceSub, Int.reduceMul, Int.reduceLT, Int.reduceLE, Int.reduceEq, Int.reduceBEq, Int.reduceNeg, decide_true, decide_false, Nat.le_max_left, Nat.le_max_right, ne_eq, not_true_eq_false, not_false_eq_true, Int.natCast_zero, gt_iff_lt, ge_iff_le, Int.reduceGT, Int.reduceGE, Bool.false_and, Bool.and_false, Bool.true_and, Bool.and_true, e1, h1, e12, e13, w1, eK]
    | false =>
      rw [hb] at B
      simp -implicitDefEqProofs only [go_sem, ↓reduceIte, Nat.reduceEqDiff, Nat.reduceAdd, Nat.reduceSub, Nat.reduceMul, Nat.reduceLeDiff, Nat.reduceLT, Nat.reduceBEq, Nat.reduceBNe, reduceCtorEq, beq_self_eq_true, Int.toNat_natCast, List.length_map, List.length_nil, Int.reduceToNat, Int.reduceAdd, Int.reduceSub, Int.reduceMul, Int.reduceLT, Int.reduceLE, Int.reduceEq, Int.reduceBEq, Int.reduceNeg, decide_true, decide_false, Nat.le_max_left, Nat.le_max_right, ne_eq, not_true_eq_false, not_false_eq_true, Int.natCast_zero, gt_iff_lt, ge_iff_le, Int.reduceGT, Int.reduceGE, Bool.false_and, Bool.and_false, Bool.true_and, Bool.and_true, ir103_l0, eK, eT, e1, h1, e12, e13, e14, d1, q0, q1, g1, w1, vpS B rfl]
      refine .ret (.inr ⟨rfl, allN_false hb _ hlt, ?_⟩)
      simp -implicitDefEqProofs only [go_sem, ↓reduceIte, Nat.reduceEqDiff, Nat.reduceAdd, Nat.reduceSub, Nat.reduceMul, Nat.reduceLeDiff, Nat.reduceLT, Nat.reduceBEq, Nat.reduceBNe, reduceCtorEq, beq_self_eq_true, Int.toNat_natCast, List.length_map, List.length_nil, Int.reduceToNat, Int.reduceAdd, Int.reduceSub, Int.reduceMul, Int.reduceLT, Int.reduceLE, Int.reduceEq, Int.reduceBEq, Int.reduceNeg, decide_true, decide_false, Nat.le_max_left, Nat.le_max_right, ne_eq, not_true_eq_false, not_false_eq_true, Int.natCast_zero, gt_iff_lt, ge_iff_le, Int.reduceGT, Int.reduceGE, Bool.false_and, Bool.and_false, Bool.true_and, Bool.and_true, ]
  · have : k = c.tens.length := by omega
    subst this
    have d1 : decide ((c.tens.length : Int) < (c.tens.length : Int)) = false := by simp
    simp -implicitDefEqProofs only [go_sem, ↓reduceIte, Nat.reduceEqDiff, Nat.reduceAdd, Nat.reduceSub, Nat.reduceMul, Nat.reduceLeDiff, Nat.reduceLT, Nat.reduceBEq, Nat.reduceBNe, reduceCtorEq, beq_self_eq_true, Int.toNat_natCast, List.length_map, List.length_nil, Int.reduceToNat, Int.reduceAdd, Int.reduceSub, Int.reduceMul, Int.reduceLT, Int.reduceLE, Int.reduceEq, Int.reduceBEq, Int.reduceNeg, decide_true, decide_false, Nat.le_max_left, Nat.le_max_right, ne_eq, not_true_eq_false, not_false_eq_true, Int.natCast_zero, gt_iff_lt, ge_iff_le, Int.reduceGT, Int.reduceGE, Bool.false_and, Bool.and_false, Bool.true_and, Bool.and_true, ir103_l0, eK, e13, e14, d1]
    exact .exit (.inl ⟨rfl, ha⟩)
theorem FV_tValid (c : Conf) (hc : Lens c) : FV PP shF 103 [.agg (eK c)] = some (dI (validT c)) := by
  have V := FV_Valid c hc
  refine FV_ok (F_ok PP103 rfl ⟨by simp [ir103], by simp⟩ ?_)
  unfold validT
  by_cases h0 : validN c = 0
  · obtain ⟨hr, _⟩ := limB_facts (validN_lim h0)
    rw [h0] at V
    have n0 : ((0 : Int) != 0) = false := rfl
    simp -implicitDefEqProofs only [go_sem, ↓reduceIte, Nat.reduceEqDiff, Nat.reduceAdd, Nat.reduceSub, Nat.reduceMul, Nat.reduceLeDiff, Nat.reduceLT, Nat.reduceBEq, Nat.reduceBNe, reduceCtorEq, beq_self_eq_true, Int.toNat_natCast, List.length_map, List.length_nil, Int.reduceToNat, Int.reduceAdd, Int.reduceSub, Int.reduceMul, Int.reduceLT, Int.reduceLE, Int.reduceEq, Int.reduceBEq, Int.reduceNeg, decide_true, decide_false, Nat.le_max_left, Nat.le_max_right, ne_eq, not_true_eq_false, not_false_eq_true, Int.natCast_zero, gt_iff_lt, ge_iff_le, Int.reduceGT, Int.reduceGE, Bool.false_and, Bool.and_false, Bool.true_and, Bool.and_true, ir103, eK, vpS V rfl, h0, n0]
    refine (tvalid_l0 c hc hr 0 _ ⟨?_, ?_, ?_, ?_, ?_, by omega, rfl⟩).mono ?_ <;> (try simp -implicitDefEqProofs only [go_sem, ↓reduceIte, Nat.reduceEqDiff, Nat.reduceAdd, Nat.reduceSub, Nat.reduceMul, Nat.reduceLeDiff, Nat.reduceLT, Nat.reduceBEq, Nat.reduceBNe, reduceCtorEq, beq_self_eq_true, Int.toNat_natCast, List.length_map, List.length_nil, Int.reduceToNat, Int.reduceAdd, Int.reduceSub, Int.reduceMul, Int.reduceLT, Int.reduceLE, Int.reduceEq, Int.reduceBEq, Int.reduceNeg, decide_true, decide_false, Nat.le_max_left, Nat.le_max_right, ne_eq, not_true_eq_false, not_false_eq_true, Int.natCast_zero, gt_iff_lt, ge_iff_le, Int.reduceGT, Int.reduceGE, Bool.false_and, Bool.and_false, Bool.true_and, Bool.and_true, eK])
    rintro e ⟨E, H⟩ (⟨rfl, hb⟩ | ⟨rfl, hb, e2⟩)
    · simp -implicitDefEqProofs only [go_sem, ↓reduceIte, Nat.reduceEqDiff, Nat.reduceAdd, Nat.reduceSub, Nat.reduceMul, Nat.reduceLeDiff, Nat.reduceLT, Nat.reduceBEq, Nat.reduceBNe, reduceCtorEq, beq_self_eq_true, Int.toNat_natCast, List.length_map, List.length_nil, Int.reduceToNat, Int.reduceAdd, Int.reduceSub, Int.reduceMul, Int.reduceLT, Int.reduceLE, Int.reduceEq, Int.reduceBEq, Int.reduceNeg, decide_true, decide_false, Nat.le_max_left, Nat.le_max_right, ne_eq, not_true_eq_false, not_false_eq_true, Int.natCast_zero, gt_iff_lt, ge_iff_le, Int.reduceGT, Int.reduceGE, Bool.false_and, Bool.and_false, Bool.true_and, Bool.and_true, hb]
    · simp only at e2
      simp -implicitDefEqProofs only [go_sem, ↓reduceIte, Nat.reduceEqDiff, Nat.reduceAdd, Nat.reduceSub, Nat.reduceMul, Nat.reduceLeDiff, Nat.reduceLT, Nat.reduceBEq, Nat.reduceBNe, reduceCtorEq, beq_self_eq_true, Int.toNat_natCast, List.length_map, List.length_nil, Int.reduceToNat, Int.reduceAdd, Int.reduceSub, Int.reduceMul, Int.reduceLT, Int.reduceLE, Int.reduceEq, Int.reduceBEq, Int.reduceNeg, decide_true, decide_false, Nat.le_max_left, Nat.le_max_right, ne_eq, not_true_eq_false, not_false_eq_true, Int.natCast_zero, gt_iff_lt, ge_iff_le, Int.reduceGT, Int.reduceGE, Bool.false_and, Bool.and_false, Bool.true_and, Bool.and_true, hb, e2]
  · have d1 : (validN c != 0) = true := by simp [h0]
    simp -implicitDefEqProofs only [go_sem, ↓reduceIte, Nat.reduceEqDiff, Nat.reduceAdd, Nat.reduceSub, Nat.reduceMul, Nat.reduceLeDiff, Nat.reduceLT, Nat.reduceBEq, Nat.reduceBNe, reduceCtorEq, beq_self_eq_true, Int.toNat_natCast, List.length_map, List.length_nil, Int.reduceToNat, Int.reduceAdd, Int.reduceSub, Int.reduceMul, Int.reduceLT, Int.reduceLE, Int.reduceEq, Int.reduceBEq, Int.reduceNeg, decide_true, decide_false, Nat.le_max_left, Nat.le_max_right, ne_eq, not_true_eq_false, not_false_eq_true, Int.natCast_zero, gt_iff_lt, ge_iff_le, Int.reduceGT, Int.reduceGE, Bool.false_and, Bool.and_false, Bool.true_and, Bool.and_true, ir103, eK, vpS V rfl, d1, h0]
def L104 (c : Conf) (k : Nat) (w : VSt) : Prop := gt .bad w.E 1 = .mp 1 1 0 0 ∧ hg w.H 1 = ⟨1, 0, true, [eK c]⟩ ∧ gt .bad w.E 4 = dI (k : Nat) ∧ k ≤ c.tens.length ∧ allN (qT c) k = true
theorem rtvalid_l0 (c : Conf) (hc : Lens c) (hr : 1 ≤ c.regions ∧ c.regions ≤ 4) : ∀ k w, L104 c k w → Ok (R PP shF 0 25 (.loop ir104_l0) w) (fun e w => (e = .exit 0 ∧ allN (qT c) c.tens.length = true) ∨ (e = .ret ∧ allN (qT c) c.tens.length = false ∧ gt .bad w.E 2 = dI 1)) := by
  refine Ok_up c.tens.length (L104 c) fun k w hI => ?_
  obtain ⟨E, H⟩ := w
  obtain ⟨e1, h1, e4, hk, ha⟩ := hI
  simp only at e1 h1 e4
  have ht := hc.t
  have w1 : IntKind.wrap .i64 ((k : Int) + 1) = ((k + 1 : Nat) : Int) := by rw [w64 (by omega) (by omega)]; rfl
  by_cases hlt : k < c.tens.length
  · have d1 : decide ((k : Int) < (c.tens.length : Int)) = true := by simp; omega
    have q1 : (k : Int) < (c.tens.length : Int) := by omega
    have q0 : (0 : Int) ≤ (k : Int) := by omega
    have g1 := getD_at (l := c.tens) (i := k) (d := ⟨0, 0, 0, 0, 0, 0, false⟩) hlt
    have B := FV_declared c hr (c.tens.getD k ⟨0, 0, 0, 0, 0, 0, false⟩)
    rw [show rightB (wid c) (c.tens.getD k ⟨0, 0, 0, 0, 0, 0, false⟩) = qT c k from rfl] at B
    cases hb : qT c k with
    | true =>
      rw [hb] at B
      simp -implicitDefEqProofs only [go_sem, ↓reduceIte, Nat.reduceEqDiff, Nat.reduceAdd, Nat.reduceSub, Nat.reduceMul, Nat.reduceLeDiff, Nat.reduceLT, Nat.reduceBEq, Nat.reduceBNe, reduceCtorEq, beq_self_eq_true, Int.toNat_natCast, List.length_map, List.length_nil, Int.reduceToNat, Int.reduceAdd, Int.reduceSub, Int.reduceMul, Int.reduceLT, Int.reduceLE, Int.reduceEq, Int.reduceBEq, Int.reduceNeg, decide_true, decide_false, Nat.le_max_left, Nat.le_max_right, ne_eq, not_true_eq_false, not_false_eq_true, Int.natCast_zero, gt_iff_lt, ge_iff_le, Int.reduceGT, Int.reduceGE, Bool.false_and, Bool.and_false, Bool.true_and, Bool.and_true, ir104_l0, eK, eT, e1, h1, e4, d1, q0, q1, g1, w1, vpS B rfl]
      refine .next hlt ⟨?_, ?_, ?_, by omega, allN_next ha hb⟩ <;> simp -implicitDefEqProofs only [go_sem, ↓reduceIte, Nat.reduceEqDiff, Nat.reduceAdd, Nat.reduceSub, Nat.reduceMul, Nat.reduceLeDiff, Nat.reduceLT, Nat.reduceBEq, Nat.reduceBNe, reduceCtorEq, beq_self_eq_true, Int.toNat_natCast, List.length_map, List.length_nil, Int.reduceToNat, Int.reduceAdd, Int.reduceSub, Int.reduceMul, Int.reduceLT, Int.reduceLE, Int.reduceEq, Int.reduceBEq, Int.reduceNeg, decide_true, decide_false, Nat.le_max_left, Nat.le_max_right, ne_eq, not_true_eq_false, not_false_eq_true, Int.natCast_zero, gt_iff_lt, ge_iff_le, Int.reduceGT, Int.reduceGE, Bool.false_and, Bool.and_false, Bool.true_and, Bool.and_true, e1, h1, w1, eK]
    | false =>
      rw [hb] at B
      simp -implicitDefEqProofs only [go_sem, ↓reduceIte, Nat.reduceEqDiff, Nat.reduceAdd, Nat.reduceSub, Nat.reduceMul, Nat.reduceLeDiff, Nat.reduceLT, Nat.reduceBEq, Nat.reduceBNe, reduceCtorEq, beq_self_eq_true, Int.toNat_natCast, List.length_map, List.length_nil, Int.reduceToNat, Int.reduceAdd, Int.reduceSub, Int.reduceMul, Int.reduceLT, Int.reduceLE, Int.reduceEq, Int.reduceBEq, Int.reduceNeg, decide_true, decide_false, Nat.le_max_left, Nat.le_max_right, ne_eq, not_true_eq_false, not_false_eq_true, Int.natCast_zero, gt_iff_lt, ge_iff_le, Int.reduceGT, Int.reduceGE, Bool.false_and, Bool.and_false, Bool.true_and, Bool.and_true, ir104_l0, eK, eT, e1, h1, e4, d1, q0, q1, g1, w1, vpS B rfl]
      refine .ret (.inr ⟨rfl, allN_false hb _ hlt, ?_⟩)
      simp -implicitDefEqProofs only [go_sem, ↓reduceIte, Nat.reduceEqDiff, Nat.reduceAdd, Nat.reduceSub, Nat.reduceMul, Nat.reduceLeDiff, Nat.reduceLT, Nat.reduceBEq, Nat.reduceBNe, reduceCtorEq, beq_self_eq_true, Int.toNat_natCast, List.length_map, List.length_nil, Int.reduceToNat, Int.reduceAdd, Int.reduceSub, Int.reduceMul, Int.reduceLT, Int.reduceLE, Int.reduceEq, Int.reduceBEq, Int.reduceNeg, decide_true, decide_false, Nat.le_max_left, Nat.le_max_right, ne_eq, not_true_eq_false, not_false_eq_true, Int.natCast_zero, gt_iff_lt, ge_iff_le, Int.reduceGT, Int.reduceGE, Bool.false_and, Bool.and_false, Bool.true_and, Bool.and_true, ]
  · have : k = c.tens.length := by omega
    subst this
    have d1 : decide ((c.tens.length : Int) < (c.tens.length : Int)) = false := by simp
    simp -implicitDefEqProofs only [go_sem, ↓reduceIte, Nat.reduceEqDiff, Nat.reduceAdd, Nat.reduceSub, Nat.reduceMul, Nat.reduceLeDiff, Nat.reduceLT, Nat.reduceBEq, Nat.reduceBNe, reduceCtorEq, beq_self_eq_true, Int.toNat_natCast, List.length_map, List.length_nil, Int.reduceToNat, Int.reduceAdd, Int.reduceSub, Int.reduceMul, Int.reduceLT, Int.reduceLE, Int.reduceEq, Int.reduceBEq, Int.reduceNeg, decide_true, decide_false, Nat.le_max_left, Nat.le_max_right, ne_eq, not_true_eq_false, not_false_eq_true, Int.natCast_zero, gt_iff_lt, ge_iff_le, Int.reduceGT, Int.reduceGE, Bool.false_and, Bool.and_false, Bool.true_and, Bool.and_true, ir104_l0, eK, e1, h1, e4, d1]
    exact .exit (.inl ⟨rfl, ha⟩)
theorem FV_rtValid (c : Conf) (hc : Lens c) : FV PP shF 104 [.agg (eK c)] = some (dI (validT c)) := by
  have V := FV_rValid c hc
  refine FV_ok (F_ok PP104 rfl ⟨by simp [ir104], by simp⟩ ?_)
  unfold validT
  by_cases h0 : validN c = 0
  · obtain ⟨hr, _⟩ := limB_facts (validN_lim h0)
    rw [h0] at V
    have n0 : ((0 : Int) != 0) = false := rfl
    simp -implicitDefEqProofs only [go_sem, ↓reduceIte, Nat.reduceEqDiff, Nat.reduceAdd, Nat.reduceSub, Nat.reduceMul, Nat.reduceLeDiff, Nat.reduceLT, Nat.reduceBEq, Nat.reduceBNe, reduceCtorEq, beq_self_eq_true, Int.toNat_natCast, List.length_map, List.length_nil, Int.reduceToNat, Int.reduceAdd, Int.reduceSub, Int.reduceMul, Int.reduceLT, Int.reduceLE, Int.reduceEq, Int.reduceBEq, Int.reduceNeg, decide_true, decide_false, Nat.le_max_left, Nat.le_max_right, ne_eq, not_true_eq_false, not_false_eq_true, Int.natCast_zero, gt_iff_lt, ge_iff_le, Int.reduceGT, Int.reduceGE, Bool.false_and, Bool.and_false, Bool.true_and, Bool.and_true, ir104, eK, vpS V rfl, h0, n0]
    refine (rtvalid_l0 c hc hr 0 _ ⟨?_, ?_, ?_, by omega, rfl⟩).mono ?_ <;> (try simp -implicitDefEqProofs only [go_sem, ↓reduceIte, Nat.reduceEqDiff, Nat.reduceAdd, Nat.reduceSub, Nat.reduceMul, Nat.reduceLeDiff, Nat.reduceLT, Nat.reduceBEq, Nat.reduceBNe, reduceCtorEq, beq_self_eq_true, Int.toNat_natCast, List.length_map, List.length_nil, Int.reduceToNat, Int.reduceAdd, Int.reduceSub, Int.reduceMul, Int.reduceLT, Int.reduceLE, Int.reduceEq, Int.reduceBEq, Int.reduceNeg, decide_true, decide_false, Nat.le_max_left, Nat.le_max_right, ne_eq, not_true_eq_false, not_false_eq_true, Int.natCast_zero, gt_iff_lt, ge_iff_le, Int.reduceGT, Int.reduceGE, Bool.false_and, Bool.and_false, Bool.true_and, Bool.and_true, eK])
    rintro e ⟨E, H⟩ (⟨rfl, hb⟩ | ⟨rfl, hb, e2⟩)
    · simp -implicitDefEqProofs only [go_sem, ↓reduceIte, Nat.reduceEqDiff, Nat.reduceAdd, Nat.reduceSub, Nat.reduceMul, Nat.reduceLeDiff, Nat.reduceLT, Nat.reduceBEq, Nat.reduceBNe, reduceCtorEq, beq_self_eq_true, Int.toNat_natCast, List.length_map, List.length_nil, Int.reduceToNat, Int.reduceAdd, Int.reduceSub, Int.reduceMul, Int.reduceLT, Int.reduceLE, Int.reduceEq, Int.reduceBEq, Int.reduceNeg, decide_true, decide_false, Nat.le_max_left, Nat.le_max_right, ne_eq, not_true_eq_false, not_false_eq_true, Int.natCast_zero, gt_iff_lt, ge_iff_le, Int.reduceGT, Int.reduceGE, Bool.false_and, Bool.and_false, Bool.true_and, Bool.and_true, hb]
    · simp only at e2
      simp -implicitDefEqProofs only [go_sem, ↓reduceIte, Nat.reduceEqDiff, Nat.reduceAdd, Nat.reduceSub, Nat.reduceMul, Nat.reduceLeDiff, Nat.reduceLT, Nat.reduceBEq, Nat.reduceBNe, reduceCtorEq, beq_self_eq_true, Int.toNat_natCast, List.length_map, List.length_nil, Int.reduceToNat, Int.reduceAdd, Int.reduceSub, Int.reduceMul, Int.reduceLT, Int.reduceLE, Int.reduceEq, Int.reduceBEq, Int.reduceNeg, decide_true, decide_false, Nat.le_max_left, Nat.le_max_right, ne_eq, not_true_eq_false, not_false_eq_true, Int.natCast_zero, gt_iff_lt, ge_iff_le, Int.reduceGT, Int.reduceGE, Bool.false_and, Bool.and_false, Bool.true_and, Bool.and_true, hb, e2]
  · have d1 : (validN c != 0) = true := by simp [h0]
    simp -implicitDefEqProofs only [go_sem, ↓reduceIte, Nat.reduceEqDiff, Nat.reduceAdd, Nat.reduceSub, Nat.reduceMul, Nat.reduceLeDiff, Nat.reduceLT, Nat.reduceBEq, Nat.reduceBNe, reduceCtorEq, beq_self_eq_true, Int.toNat_natCast, List.length_map, List.length_nil, Int.reduceToNat, Int.reduceAdd, Int.reduceSub, Int.reduceMul, Int.reduceLT, Int.reduceLE, Int.reduceEq, Int.reduceBEq, Int.reduceNeg, decide_true, decide_false, Nat.le_max_left, Nat.le_max_right, ne_eq, not_true_eq_false, not_false_eq_true, Int.natCast_zero, gt_iff_lt, ge_iff_le, Int.reduceGT, Int.reduceGE, Bool.false_and, Bool.and_false, Bool.true_and, Bool.and_true, ir104, eK, vpS V rfl, d1, h0]
theorem FV_run (k : Nat) {g : Nat} (h : (vmach PP shF k g [] [] 0).map (·.1) = some (dB true)) : FV PP shF g [] = some (dB true) := by
  simp only [Option.map_eq_some_iff] at h
  obtain ⟨⟨d, H⟩, h1, h2⟩ := h
  simp only at h2; subst h2
  exact FV_B (F_of k h1)
theorem rows_of {α : Type} (e : α → List DV) {p : List DV → Prop} (h : ∀ el, p el → ∃ a, el = e a) : ∀ L : List (List DV), (∀ el, el ∈ L → p el) → ∃ l : List α, L = l.map e
  | [], _ => ⟨[], rfl⟩
  | x :: L, hL => by
    obtain ⟨a, ha⟩ := h x (hL x (by simp))
    obtain ⟨l, hl⟩ := rows_of e h L (fun el hel => hL el (by simp [hel]))
    exact ⟨a :: l, by rw [ha, hl]; rfl⟩
theorem ShpC.int {d : DV} (h : ShpC .i d) : ∃ n : Int, I64 n ∧ d = dI n := h
theorem ShpC.bool {d : DV} (h : ShpC .b d) : ∃ x : Bool, d = dB x := h
theorem ShpE.cons {k : CK} {ks : List CK} : ∀ {el : List DV}, ShpE (k :: ks) el → ∃ d ds, el = d :: ds ∧ ShpC k d ∧ ShpE ks ds
  | [], h => h.elim
  | d :: ds, h => ⟨d, ds, rfl, h.1, h.2⟩
theorem ShpE.nil : ∀ {el : List DV}, ShpE [] el → el = []
  | [], _ => rfl
  | _ :: _, h => h.elim
theorem Shps.cons {k : PK} {ks : List PK} : ∀ {el : List DV}, Shps (k :: ks) el → ∃ d ds, el = d :: ds ∧ ShpP k d ∧ Shps ks ds
  | [], h => h.elim
  | d :: ds, h => ⟨d, ds, rfl, h.1, h.2⟩
theorem Shps.nil : ∀ {el : List DV}, Shps [] el → el = []
  | [], _ => rfl
  | _ :: _, h => h.elim
theorem ShpP.int {d : DV} (h : ShpP (.c .i) d) : ∃ n : Int, I64 n ∧ d = dI n := h
theorem ShpP.bool {d : DV} (h : ShpP (.c .b) d) : ∃ x : Bool, d = dB x := h
theorem ShpP.sl {es : List CK} {d : DV} (h : ShpP (.s es) d) : ∃ L, d = .sl L ∧ ∀ el, el ∈ L → ShpE es el := h
theorem shp_i {el : List DV} (h : ShpE [.i] el) : ∃ a : Int, el = eI a := by
  obtain ⟨_, _, e1, p1, g1⟩ := h.cons
  subst e1
  obtain ⟨a, _, q1⟩ := p1.int
  subst q1
  obtain rfl := g1.nil
  exact ⟨a, rfl⟩
theorem shp_ii {el : List DV} (h : ShpE [.i, .i] el) : ∃ a b : Int, el = [dI a, dI b] := by
  obtain ⟨_, _, e1, p1, g1⟩ := h.cons
  subst e1
  obtain ⟨a, _, q1⟩ := p1.int
  subst q1
  obtain ⟨_, _, e2, p2, g2⟩ := g1.cons
  subst e2
  obtain ⟨b, _, q2⟩ := p2.int
  subst q2
  obtain rfl := g2.nil
  exact ⟨a, b, rfl⟩
theorem shp_c {el : List DV} (h : ShpE [.i, .i] el) : ∃ a : Cell, el = eC a := by
  obtain ⟨a, b, rfl⟩ := shp_ii h
  exact ⟨⟨a, b⟩, rfl⟩
theorem shp_v {el : List DV} (h : ShpE [.i, .i] el) : ∃ a : Ver, el = eV a := by
  obtain ⟨a, b, rfl⟩ := shp_ii h
  exact ⟨⟨a, b⟩, rfl⟩
theorem shp_t {el : List DV} (h : ShpE [.i, .i, .i, .i, .i, .i, .b] el) : ∃ a : Ten, el = eT a := by
  obtain ⟨_, _, e1, p1, g1⟩ := h.cons
  subst e1
  obtain ⟨a, _, q1⟩ := p1.int
  subst q1
  obtain ⟨_, _, e2, p2, g2⟩ := g1.cons
  subst e2
  obtain ⟨b, _, q2⟩ := p2.int
  subst q2
  obtain ⟨_, _, e3, p3, g3⟩ := g2.cons
  subst e3
  obtain ⟨c, _, q3⟩ := p3.int
  subst q3
  obtain ⟨_, _, e4, p4, g4⟩ := g3.cons
  subst e4
  obtain ⟨d, _, q4⟩ := p4.int
  subst q4
  obtain ⟨_, _, e5, p5, g5⟩ := g4.cons
  subst e5
  obtain ⟨e, _, q5⟩ := p5.int
  subst q5
  obtain ⟨_, _, e6, p6, g6⟩ := g5.cons
  subst e6
  obtain ⟨f, _, q6⟩ := p6.int
  subst q6
  obtain ⟨_, _, e7, p7, g7⟩ := g6.cons
  subst e7
  obtain ⟨g, q7⟩ := p7.bool
  subst q7
  obtain rfl := g7.nil
  exact ⟨⟨a, b, c, d, e, f, g⟩, rfl⟩
abbrev confK : List PK := [.c .i, .s [.i], .s [.i, .i], .s [.i, .i, .i, .i, .i, .i, .b], .s [.i, .i], .s [.i], .s [.i], .c .i, .c .i, .c .i]
/-- A configuration of any kind. -/
theorem conf_of {q : List DV} (h : Shps confK q) : ∃ c : Conf, q = eK c := by
  obtain ⟨_, _, e1, p1, g1⟩ := h.cons
  subst e1
  obtain ⟨a, _, q1⟩ := p1.int
  subst q1
  obtain ⟨_, _, e2, p2, g2⟩ := g1.cons
  subst e2
  obtain ⟨L2, q2, r2⟩ := p2.sl
  subst q2
  obtain ⟨l1, s2⟩ := rows_of eI (fun el => shp_i) L2 r2
  subst s2
  obtain ⟨_, _, e3, p3, g3⟩ := g2.cons
  subst e3
  obtain ⟨L3, q3, r3⟩ := p3.sl
  subst q3
  obtain ⟨l2, s3⟩ := rows_of eC (fun el => shp_c) L3 r3
  subst s3
  obtain ⟨_, _, e4, p4, g4⟩ := g3.cons
  subst e4
  obtain ⟨L4, q4, r4⟩ := p4.sl
  subst q4
  obtain ⟨l3, s4⟩ := rows_of eT (fun el => shp_t) L4 r4
  subst s4
  obtain ⟨_, _, e5, p5, g5⟩ := g4.cons
  subst e5
  obtain ⟨L5, q5, r5⟩ := p5.sl
  subst q5
  obtain ⟨l4, s5⟩ := rows_of eV (fun el => shp_v) L5 r5
  subst s5
  obtain ⟨_, _, e6, p6, g6⟩ := g5.cons
  subst e6
  obtain ⟨L6, q6, r6⟩ := p6.sl
  subst q6
  obtain ⟨l5, s6⟩ := rows_of eI (fun el => shp_i) L6 r6
  subst s6
  obtain ⟨_, _, e7, p7, g7⟩ := g6.cons
  subst e7
  obtain ⟨L7, q7, r7⟩ := p7.sl
  subst q7
  obtain ⟨l6, s7⟩ := rows_of eI (fun el => shp_i) L7 r7
  subst s7
  obtain ⟨_, _, e8, p8, g8⟩ := g7.cons
  subst e8
  obtain ⟨b, _, q8⟩ := p8.int
  subst q8
  obtain ⟨_, _, e9, p9, g9⟩ := g8.cons
  subst e9
  obtain ⟨d, _, q9⟩ := p9.int
  subst q9
  obtain ⟨_, _, e10, p10, g10⟩ := g9.cons
  subst e10
  obtain ⟨e, _, q10⟩ := p10.int
  subst q10
  obtain rfl := g10.nil
  exact ⟨⟨a, l1, l2, l3, l4, l5, l6, b, d, e⟩, rfl⟩
theorem allN_true {q : Nat → Bool} : ∀ n : Nat, (∀ i, i < n → q i = true) → allN q n = true
  | 0, _ => rfl
  | n + 1, h => by simp only [allN, allN_true n (fun i hi => h i (by omega)), h n (by omega), Bool.and_self]
theorem inB_true {n lo hi : Int} (h : lo ≤ n ∧ n ≤ hi) : inB n lo hi = true := by unfold inB; rw [decide_eq_true h.1, decide_eq_true h.2]; rfl
theorem ConfOk.valid {c : Conf} (hc : ConfOk c) : validN c = 0 := by
  have r0 := hc.r0
  have r1 := hc.r1
  have z0 := hc.z0
  have z1 := hc.z1
  have c0 := hc.c0
  have c1 := hc.c1
  have t1 := hc.t1
  have v1 := hc.v1
  have v0 := List.length_pos_iff.2 hc.v0
  have o0 := hc.o0
  have o1 := hc.o1
  have hl : limB c = true := by
    unfold limB
    rw [inB_true ⟨by omega, by omega⟩, inB_true ⟨by omega, by omega⟩, inB_true ⟨by omega, by omega⟩, inB_true ⟨by omega, by omega⟩, inB_true (n := (c.reps.length : Int)) ⟨by rcases hc.ps with h | h <;> omega, by rcases hc.ps with h | h <;> omega⟩, inB_true ⟨by omega, by omega⟩, decide_eq_true (by omega)]
    rfl
  have he : evenB c = false := by
    unfold evenB
    rcases hc.ps with h | h <;> rw [h] <;> rfl
  have hz : ∀ l : List Int, (∀ z, z ∈ l → 0 ≤ z ∧ z < (c.zones.length : Int)) → zonesB c l = true := fun l h => allN_true _ fun i hi => by
    have g := getD_at (l := l) (i := i) (d := 0) hi
    have := h _ (List.mem_of_getElem? g)
    exact inB_true ⟨by omega, by omega⟩
  have hp : placedB c = true := by
    unfold placedB
    rw [hz _ hc.pz, hz _ hc.oz, allN_true _ (fun i hi => ?_), allN_true _ (fun i hi => ?_)]
    · rfl
    · have g := getD_at (l := c.cells) (i := i) (d := ⟨0, 0⟩) hi
      have := hc.cs _ (List.mem_of_getElem? g)
      unfold qC
      rw [inB_true ⟨by omega, by omega⟩, inB_true ⟨by omega, by omega⟩]; rfl
    · have g := getD_at (l := c.zones) (i := i) (d := 0) hi
      have := hc.zs _ (List.mem_of_getElem? g)
      exact inB_true ⟨by omega, by omega⟩
  have hv : versB c = true := by
    unfold versB
    have g0 := getD_at (l := c.vers) (i := 0) (d := ⟨0, 0⟩) v0
    have hf : firstB c = true := by
      unfold firstB
      rw [hc.vh (c.vers.getD 0 ⟨0, 0⟩) (by rw [← g0, List.head?_eq_getElem?])]
      rfl
    rw [hf, allN_true _ (fun i hi => ?_)]
    · rfl
    · have g := getD_at (l := c.vers) (i := i) (d := ⟨0, 0⟩) hi
      have := hc.vs _ (List.mem_of_getElem? g)
      unfold qV
      have x1 := this.l1
      have x2 := this.h1
      rw [decide_eq_true this.l0, decide_eq_true this.h0, decide_eq_true (by omega)]
      rfl
  have hr : restB c = true := by
    unfold restB
    have := hc.b0
    have := hc.b1
    have := hc.l0
    have := hc.l1
    have := hc.k0
    have := hc.k1
    rw [inB_true ⟨by omega, by omega⟩, inB_true ⟨by omega, by omega⟩, inB_true ⟨by omega, by omega⟩]; rfl
  unfold validN okB4
  rw [hl, he, hp, hv, hr]; rfl
theorem bent_lens {c : Conf} (hc : ConfOk c) (k : Nat) (b : Int) : Lens (bent c k b) := by
  have z1 := hc.z1
  have c1 := hc.c1
  have t1 := hc.t1
  have v1 := hc.v1
  have o1 := hc.o1
  have p1 := hc.ps
  match k with
  | 0 => constructor <;> simp only [bent, List.length_append, List.length_cons, List.length_nil, List.length_set] <;> omega
  | 1 => constructor <;> simp only [bent, List.length_append, List.length_cons, List.length_nil, List.length_set] <;> omega
  | 2 => constructor <;> simp only [bent, List.length_append, List.length_cons, List.length_nil, List.length_set] <;> omega
  | 3 => constructor <;> simp only [bent, List.length_append, List.length_cons, List.length_nil, List.length_set] <;> omega
  | 4 => constructor <;> simp only [bent, List.length_append, List.length_cons, List.length_nil, List.length_set] <;> omega
  | 5 => constructor <;> simp only [bent, List.length_append, List.length_cons, List.length_nil, List.length_set] <;> omega
  | 6 => constructor <;> simp only [bent, List.length_append, List.length_cons, List.length_nil, List.length_set] <;> omega
  | 7 => constructor <;> simp only [bent, List.length_append, List.length_cons, List.length_nil, List.length_set] <;> omega
  | 8 => constructor <;> simp only [bent, List.length_append, List.length_cons, List.length_nil, List.length_set] <;> omega
  | 9 => constructor <;> simp only [bent, List.length_append, List.length_cons, List.length_nil, List.length_set] <;> omega
  | 10 => constructor <;> simp only [bent, List.length_append, List.length_cons, List.length_nil, List.length_set] <;> omega
  | 11 => constructor <;> simp only [bent, List.length_append, List.length_cons, List.length_nil, List.length_set] <;> omega
  | 12 => constructor <;> simp only [bent, List.length_append, List.length_cons, List.length_nil, List.length_set] <;> omega
  | n + 13 => constructor <;> simp only [bent, List.length_append, List.length_cons, List.length_nil, List.length_set] <;> omega
theorem FV_awake05 : FV PP shF 138 [] = some (dB true) := FV_run 60 (by kernel_rfl)
theorem ConfOk.validT {c : Conf} (hc : ConfOk c) : Cp.validT c = 0 := by
  have r0 := hc.r0
  have r1 := hc.r1
  unfold Cp.validT
  rw [hc.valid, if_pos rfl, allN_true _ (fun i hi => ?_)]
  · rfl
  · have g := getD_at (l := c.tens) (i := i) (d := ⟨0, 0, 0, 0, 0, 0, false⟩) hi
    have h := hc.ts _ (List.mem_of_getElem? g)
    have a0 := h.l0
    have a1 := h.l1
    have a2 := h.s0
    have a3 := h.s1
    have a4 := h.p0
    have a5 := h.p1
    have a6 := h.g0
    have a7 := h.g1
    have a8 := h.a0
    have a9 := h.a1
    have b0 := h.u0
    have b1 := h.u1
    have hw : allR c.regions < wid c := by
      unfold wid
      obtain hh | hh | hh : c.regions = 1 ∨ c.regions = 2 ∨ c.regions = 3 := by omega
      all_goals (rw [hh]; decide)
    unfold qT rightB
    rw [inB_true ⟨by omega, by omega⟩, inB_true ⟨by omega, by omega⟩, inB_true ⟨by omega, by omega⟩, inB_true ⟨by omega, by omega⟩, inB_true ⟨by omega, by omega⟩, decide_eq_true (by omega), decide_eq_true (by omega)]
    rfl
theorem law_TenantValid (q : List DV) (hq : Shps [.c .i, .s [.i], .s [.i, .i], .s [.i, .i, .i, .i, .i, .i, .b], .s [.i, .i], .s [.i], .s [.i], .c .i, .c .i, .c .i] q) (l : List Int) (hl : I64s l) (a : Int) (ha : I64 a) (b : Int) (hb : I64 b) : OkF (F PP shF 131 [.agg q, dL l, dI a, dI b] [] 0) (fun d _ => d = dB true) := by
  obtain ⟨r, rfl⟩ := conf_of hq
  refine F_ok PP131 rfl ⟨by simp [ir131], by simp⟩ ?_
  have S := FV_Small r
  cases hs : smallB r with
  | false =>
    rw [hs] at S
    simp -implicitDefEqProofs only [go_sem, ↓reduceIte, Nat.reduceEqDiff, Nat.reduceAdd, Nat.reduceSub, Nat.reduceMul, Nat.reduceLeDiff, Nat.reduceLT, Nat.reduceBEq, Nat.reduceBNe, reduceCtorEq, beq_self_eq_true, Int.toNat_natCast, List.length_map, List.length_nil, Int.reduceToNat, Int.reduceAdd, Int.reduceSub, Int.reduceMul, Int.reduceLT, Int.reduceLE, Int.reduceEq, Int.reduceBEq, Int.reduceNeg, decide_true, decide_false, Nat.le_max_left, Nat.le_max_right, ne_eq, not_true_eq_false, not_false_eq_true, Int.natCast_zero, gt_iff_lt, ge_iff_le, Int.reduceGT, Int.reduceGE, Bool.false_and, Bool.and_false, Bool.true_and, Bool.and_true, ir131, eK, vpS S rfl, vpS FV_awake05 rfl]
  | true =>
    rw [hs] at S
    have hr := small_lens hs
    by_cases hlen : l.length ≤ 200
    · have L := FV_Light l
      rw [decide_eq_true hlen] at L
      obtain ⟨c, hc, hF⟩ := FV_Config l hl
      have hB := FV_Bent c hc a ha b hb
      have hbl := bent_lens hc (a % 14).toNat b
      have V1 := FV_tValid r hr
      have V2 := FV_rtValid r hr
      have V3 := FV_tValid c hc.lens
      rw [hc.validT] at V3
      generalize bent c (a % 14).toNat b = d at *
      have V4 := FV_tValid d hbl
      have V5 := FV_rtValid d hbl
      have n1 : ∀ x : Int, (x == x) = true := fun x => by simp
      simp -implicitDefEqProofs only [go_sem, ↓reduceIte, Nat.reduceEqDiff, Nat.reduceAdd, Nat.reduceSub, Nat.reduceMul, Nat.reduceLeDiff, Nat.reduceLT, Nat.reduceBEq, Nat.reduceBNe, reduceCtorEq, beq_self_eq_true, Int.toNat_natCast, List.length_map, List.length_nil, Int.reduceToNat, Int.reduceAdd, Int.reduceSub, Int.reduceMul, Int.reduceLT, Int.reduceLE, Int.reduceEq, Int.reduceBEq, Int.reduceNeg, decide_true, decide_false, Nat.le_max_left, Nat.le_max_right, ne_eq, not_true_eq_false, not_false_eq_true, Int.natCast_zero, gt_iff_lt, ge_iff_le, Int.reduceGT, Int.reduceGE, Bool.false_and, Bool.and_false, Bool.true_and, Bool.and_true, ir131, eK, vpS S rfl, vpS L rfl, vpS FV_awake05 rfl, vpL hF rfl, vpL hB rfl, vpS V1 rfl, vpS V2 rfl, vpS V3 rfl, vpS V4 rfl, vpS V5 rfl, n1]
    · have L := FV_Light l
      rw [decide_eq_false hlen] at L
      simp -implicitDefEqProofs only [go_sem, ↓reduceIte, Nat.reduceEqDiff, Nat.reduceAdd, Nat.reduceSub, Nat.reduceMul, Nat.reduceLeDiff, Nat.reduceLT, Nat.reduceBEq, Nat.reduceBNe, reduceCtorEq, beq_self_eq_true, Int.toNat_natCast, List.length_map, List.length_nil, Int.reduceToNat, Int.reduceAdd, Int.reduceSub, Int.reduceMul, Int.reduceLT, Int.reduceLE, Int.reduceEq, Int.reduceBEq, Int.reduceNeg, decide_true, decide_false, Nat.le_max_left, Nat.le_max_right, ne_eq, not_true_eq_false, not_false_eq_true, Int.natCast_zero, gt_iff_lt, ge_iff_le, Int.reduceGT, Int.reduceGE, Bool.false_and, Bool.and_false, Bool.true_and, Bool.and_true, ir131, eK, vpS S rfl, vpS L rfl, vpS FV_awake05 rfl]
end Go.Proofs.Cp
