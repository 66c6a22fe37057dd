/- What the functions answer (part 1). -/
import Derived.Test.YtjgijnimbnielaaFn0
set_option linter.unusedSimpArgs false
set_option linter.unusedVariables false
set_option maxRecDepth 100000
namespace Go.Proofs.Cp
open Go
theorem sorted_l0 (c : Conf) (hc : ConfOk c) (o : List Int) (ho : o.length ≤ 5) (hm : ∀ x, x ∈ o → 0 ≤ x ∧ x < c.tens.length) (hs : o.Pairwise (fun a b => bef c a b = true)) : ∀ k w, L134 c o k w → Ok (R PP shF 0 128 (.loop ir134_l0) w) (fun e w => e = .exit 0) := by
  refine Ok_up o.length (L134 c o) fun k w hI => ?_
  obtain ⟨E, H⟩ := w
  obtain ⟨e3, h3, e4, e5, e6, hk⟩ := hI
  simp only at e3 h3 e4 e5 e6
  have ht := hc.t1
  have w1 : IntKind.wrap .i64 ((k : Int) + 1) = ((k + 1 : Nat) : Int) := by rw [w64 (by omega) (by omega)]; rfl
  have hm5 : ∀ x, x ∈ o → 0 ≤ x ∧ x < 5 := fun x hx => by have := hm x hx; omega
  by_cases hlt : k < o.length
  · have d1 : decide ((k : Int) < (o.length : Int)) = true := by simp; omega
    have q1 : (k : Int) < (o.length : Int) := by omega
    have q0 : (0 : Int) ≤ (k : Int) := by omega
    have g1 := getD_at (l := o) (i := k) (d := 0) hlt
    have m1 := hm _ (List.mem_of_getElem? g1)
    have m2 : ¬ o.getD k 0 < 0 := by omega
    have m3 : decide (o.getD k 0 < 0) = false := decide_eq_false (by omega)
    have m4 : decide ((c.tens.length : Int) ≤ o.getD k 0) = false := decide_eq_false (by omega)
    have hsl := seenN_lt hm5 k hk
    have hx : o.getD k 0 = (((o.getD k 0).toNat : Nat) : Int) := by omega
    have hx5 : (o.getD k 0).toNat < 5 := by omega
    have hh : has (seenN o k : Nat) (o.getD k 0) = false := by
      cases hb : has (seenN o k : Nat) (o.getD k 0) with
      | false => rfl
      | true =>
        exfalso
        unfold has at hb
        simp only [Bool.and_eq_true, decide_eq_true_eq] at hb
        have h2 := hb.2
        rw [hx, bit_nat] at h2
        obtain ⟨j, hj, hj2⟩ := seenN_bit _ _ h2
        have gj := getD_at (l := o) (i := j) (d := 0) (by omega)
        have mj := hm _ (List.mem_of_getElem? gj)
        have e : o.getD j 0 = o.getD k 0 := by omega
        have p1 := List.pairwise_iff_getElem.1 hs j k (by omega) hlt hj
        have ej : o.getD j 0 = o[j] := by rw [List.getD_eq_getElem?_getD, List.getElem?_eq_getElem (by omega)]; rfl
        have ek : o.getD k 0 = o[k] := by rw [List.getD_eq_getElem?_getD, List.getElem?_eq_getElem (by omega)]; rfl
        rw [← ej, ← ek, e] at p1
        have := (bef_sto c).asy _ _ p1
        rw [p1] at this; simp at this
    have B := FV_Has (seenN o k : Nat) (o.getD k 0)
    rw [hh] at B
    have cu : IntKind.wrap .u64 (o.getD k 0) = o.getD k 0 := wu64 (by omega) (by omega)
    have sl : IntKind.wrap .i64 (1 * 2 ^ min (o.getD k 0).toNat 64) = ((2 ^ (o.getD k 0).toNat : Nat) : Int) := by
      have := shlN (r := (o.getD k 0).toNat) (by omega)
      rw [Int.toNat_natCast] at this; exact this
    have so : orI .i64 (seenN o k : Nat) ((2 ^ (o.getD k 0).toNat : Nat) : Int) = ((seenN o (k + 1) : Nat) : Int) := orI_nat (by omega) (Nat.pow_lt_pow_right (by decide) (by omega))
    by_cases hz : k = 0
    · have z0 : ((k : Int) == 0) = true := by simp [hz]
      simp -implicitDefEqProofs only [go_sem, ↓reduceIte, Nat.reduceEqDiff, Nat.reduceAdd, Nat.reduceSub, Nat.reduceMul, Nat.reduceLeDiff, Nat.reduceLT, Nat.reduceBEq, Nat.reduceBNe, reduceCtorEq, beq_self_eq_true, Int.toNat_natCast, List.length_map, List.length_nil, Int.reduceToNat, Int.reduceAdd, Int.reduceSub, Int.reduceMul, Int.reduceLT, Int.reduceLE, Int.reduceEq, Int.reduceBEq, Int.reduceNeg, decide_true, decide_false, Nat.le_max_left, Nat.le_max_right, ne_eq, not_true_eq_false, not_false_eq_true, Int.natCast_zero, gt_iff_lt, ge_iff_le, Int.reduceGT, Int.reduceGE, Bool.false_and, Bool.and_false, Bool.true_and, Bool.and_true, ir134_l0, eK, e3, h3, e4, e5, e6, d1, q0, q1, g1, m1, m2, m3, m4, w1, vpS B rfl, cu, sl, so, z0]
      refine .next hlt ⟨?_, ?_, ?_, ?_, ?_, by omega⟩ <;> simp -implicitDefEqProofs only [go_sem, ↓reduceIte, Nat.reduceEqDiff, Nat.reduceAdd, Nat.reduceSub, Nat.reduceMul, Nat.reduceLeDiff, Nat.reduceLT, Nat.reduceBEq, Nat.reduceBNe, reduceCtorEq, beq_self_eq_true, Int.toNat_natCast, List.length_map, List.length_nil, Int.reduceToNat, Int.reduceAdd, Int.reduceSub, Int.reduceMul, Int.reduceLT, Int.reduceLE, Int.reduceEq, Int.reduceBEq, Int.reduceNeg, decide_true, decide_false, Nat.le_max_left, Nat.le_max_right, ne_eq, not_true_eq_false, not_false_eq_true, Int.natCast_zero, gt_iff_lt, ge_iff_le, Int.reduceGT, Int.reduceGE, Bool.false_and, Bool.and_false, Bool.true_and, Bool.and_true, e3, h3, e4, w1, eK]
    obtain ⟨j, rfl⟩ : ∃ j, k = j + 1 := ⟨k - 1, by omega⟩
    have z1 : ((((j + 1 : Nat) : Int)) == 0) = false := by simp; omega
    have wk : IntKind.wrap .i64 (((j + 1 : Nat) : Int) - 1) = (j : Int) := by rw [w64 (by omega) (by omega)]; omega
    have r0 : (0 : Int) ≤ (j : Int) := by omega
    have r1 : (j : Int) < (o.length : Int) := by omega
    have g0 := getD_at (l := o) (i := j) (d := 0) (by omega)
    have m0 := hm _ (List.mem_of_getElem? g0)
    have ta : c.tens[(o.getD j 0).toNat]? = some (ten c (o.getD j 0)) := getD_at (l := c.tens) (i := (o.getD j 0).toNat) (d := ⟨0, 0, 0, 0, 0, 0, false⟩) (by omega)
    have tb : c.tens[(o.getD (j + 1) 0).toNat]? = some (ten c (o.getD (j + 1) 0)) := getD_at (l := c.tens) (i := (o.getD (j + 1) 0).toNat) (d := ⟨0, 0, 0, 0, 0, 0, false⟩) (by omega)
    have hbf : bef c (o.getD j 0) (o.getD (j + 1) 0) = true := by
      have p1 := List.pairwise_iff_getElem.1 hs j (j + 1) (by omega) hlt (by omega)
      have ej : o.getD j 0 = o[j] := by rw [List.getD_eq_getElem?_getD, List.getElem?_eq_getElem (by omega)]; rfl
      have ek : o.getD (j + 1) 0 = o[j + 1] := by rw [List.getD_eq_getElem?_getD, List.getElem?_eq_getElem (by omega)]; rfl
      rw [ej, ek]; exact p1
    unfold bef at hbf
    generalize hx0 : o.getD j 0 = x0 at *
    generalize hx1 : o.getD (j + 1) 0 = x1 at *
    generalize ten c x0 = t0 at *
    generalize ten c x1 = t1 at *
    by_cases hp : t0.prio = t1.prio
    · rw [if_neg (by simp [hp])] at hbf
      have v1 : decide (t0.prio < t1.prio) = false := by simp; omega
      have v2 : (t0.prio == t1.prio) = true := by simp [hp]
      by_cases hq : t0.load = t1.load
      · rw [if_neg (by simp [hq]), decide_eq_true_eq] at hbf
        have v3 : decide (t0.load < t1.load) = false := by simp; omega
        have v4 : (t0.load == t1.load) = true := by simp [hq]
        have v5 : decide (x1 < x0) = false := by simp; omega
        simp -implicitDefEqProofs only [go_sem, ↓reduceIte, Nat.reduceEqDiff, Nat.reduceAdd, Nat.reduceSub, Nat.reduceMul, Nat.reduceLeDiff, Nat.reduceLT, Nat.reduceBEq, Nat.reduceBNe, reduceCtorEq, beq_self_eq_true, Int.toNat_natCast, List.length_map, List.length_nil, Int.reduceToNat, Int.reduceAdd, Int.reduceSub, Int.reduceMul, Int.reduceLT, Int.reduceLE, Int.reduceEq, Int.reduceBEq, Int.reduceNeg, decide_true, decide_false, Nat.le_max_left, Nat.le_max_right, ne_eq, not_true_eq_false, not_false_eq_true, Int.natCast_zero, gt_iff_lt, ge_iff_le, Int.reduceGT, Int.reduceGE, Bool.false_and, Bool.and_false, Bool.true_and, Bool.and_true, ir134_l0, eK, e3, h3, e4, e5, e6, d1, q0, q1, g1, m1, m2, m3, m4, w1, vpS B rfl, cu, sl, so, z1, wk, r0, r1, g0, m0, ta, tb, v1, v2, v3, v4, v5]
        refine .next hlt ⟨?_, ?_, ?_, ?_, ?_, by omega⟩ <;> simp -implicitDefEqProofs only [go_sem, ↓reduceIte, Nat.reduceEqDiff, Nat.reduceAdd, Nat.reduceSub, Nat.reduceMul, Nat.reduceLeDiff, Nat.reduceLT, Nat.reduceBEq, Nat.reduceBNe, reduceCtorEq, beq_self_eq_true, Int.toNat_natCast, List.length_map, List.length_nil, Int.reduceToNat, Int.reduceAdd, Int.reduceSub, Int.reduceMul, Int.reduceLT, Int.reduceLE, Int.reduceEq, Int.reduceBEq, Int.reduceNeg, decide_true, decide_false, Nat.le_max_left, Nat.le_max_right, ne_eq, not_true_eq_false, not_false_eq_true, Int.natCast_zero, gt_iff_lt, ge_iff_le, Int.reduceGT, Int.reduceGE, Bool.false_and, Bool.and_false, Bool.true_and, Bool.and_true, e3, h3, e4, w1, eK]
      · rw [if_pos hq, decide_eq_true_eq] at hbf
        have v3 : decide (t0.load < t1.load) = false := by simp; omega
        have v4 : (t0.load == t1.load) = false := by simp [hq]
        simp -implicitDefEqProofs only [go_sem, ↓reduceIte, Nat.reduceEqDiff, Nat.reduceAdd, Nat.reduceSub, Nat.reduceMul, Nat.reduceLeDiff, Nat.reduceLT, Nat.reduceBEq, Nat.reduceBNe, reduceCtorEq, beq_self_eq_true, Int.toNat_natCast, List.length_map, List.length_nil, Int.reduceToNat, Int.reduceAdd, Int.reduceSub, Int.reduceMul, Int.reduceLT, Int.reduceLE, Int.reduceEq, Int.reduceBEq, Int.reduceNeg, decide_true, decide_false, Nat.le_max_left, Nat.le_max_right, ne_eq, not_true_eq_false, not_false_eq_true, Int.natCast_zero, gt_iff_lt, ge_iff_le, Int.reduceGT, Int.reduceGE, Bool.false_and, Bool.and_false, Bool.true_and, Bool.and_true, ir134_l0, eK, e3, h3, e4, e5, e6, d1, q0, q1, g1, m1, m2, m3, m4, w1, vpS B rfl, cu, sl, so, z1, wk, r0, r1, g0, m0, ta, tb, v1, v2, v3, v4]
        refine .next hlt ⟨?_, ?_, ?_, ?_, ?_, by omega⟩ <;> simp -implicitDefEqProofs only [go_sem, ↓reduceIte, Nat.reduceEqDiff, Nat.reduceAdd, Nat.reduceSub, Nat.reduceMul, Nat.reduceLeDiff, Nat.reduceLT, Nat.reduceBEq, Nat.reduceBNe, reduceCtorEq, beq_self_eq_true, Int.toNat_natCast, List.length_map, List.length_nil, Int.reduceToNat, Int.reduceAdd, Int.reduceSub, Int.reduceMul, Int.reduceLT, Int.reduceLE, Int.reduceEq, Int.reduceBEq, Int.reduceNeg, decide_true, decide_false, Nat.le_max_left, Nat.le_max_right, ne_eq, not_true_eq_false, not_false_eq_true, Int.natCast_zero, gt_iff_lt, ge_iff_le, Int.reduceGT, Int.reduceGE, Bool.false_and, Bool.and_false, Bool.true_and, Bool.and_true, e3, h3, e4, w1, eK]
    · rw [if_pos hp, decide_eq_true_eq] at hbf
      have v1 : decide (t0.prio < t1.prio) = false := by simp; omega
      have v2 : (t0.prio == t1.prio) = false := by simp [hp]
      simp -implicitDefEqProofs only [go_sem, ↓reduceIte, Nat.reduceEqDiff, Nat.reduceAdd, Nat.reduceSub, Nat.reduceMul, Nat.reduceLeDiff, Nat.reduceLT, Nat.reduceBEq, Nat.reduceBNe, reduceCtorEq, beq_self_eq_true, Int.toNat_natCast, List.length_map, List.length_nil, Int.reduceToNat, Int.reduceAdd, Int.reduceSub, Int.reduceMul, Int.reduceLT, Int.reduceLE, Int.reduceEq, Int.reduceBEq, Int.reduceNeg, decide_true, decide_false, Nat.le_max_left, Nat.le_max_right, ne_eq, not_true_eq_false, not_false_eq_true, Int.natCast_zero, gt_iff_lt, ge_iff_le, Int.reduceGT, Int.reduceGE, Bool.false_and, Bool.and_false, Bool.true_and, Bool.and_true, ir134_l0, eK, e3, h3, e4, e5, e6, d1, q0, q1, g1, m1, m2, m3, m4, w1, vpS B rfl, cu, sl, so, z1, wk, r0, r1, g0, m0, ta, tb, v1, v2]
      refine .next hlt ⟨?_, ?_, ?_, ?_, ?_, by omega⟩ <;> simp -implicitDefEqProofs only [go_sem, ↓reduceIte, Nat.reduceEqDiff, Nat.reduceAdd, Nat.reduceSub, Nat.reduceMul, Nat.reduceLeDiff, Nat.reduceLT, Nat.reduceBEq, Nat.reduceBNe, reduceCtorEq, beq_self_eq_true, Int.toNat_natCast, List.length_map, List.length_nil, Int.reduceToNat, Int.reduceAdd, Int.reduceSub, Int.reduceMul, Int.reduceLT, Int.reduceLE, Int.reduceEq, Int.reduceBEq, Int.reduceNeg, decide_true, decide_false, Nat.le_max_left, Nat.le_max_right, ne_eq, not_true_eq_false, not_false_eq_true, Int.natCast_zero, gt_iff_lt, ge_iff_le, Int.reduceGT, Int.reduceGE, Bool.false_and, Bool.and_false, Bool.true_and, Bool.and_true, e3, h3, e4, w1, eK]
  · have d1 : decide ((k : Int) < (o.length : Int)) = false := by simp; omega
    simp -implicitDefEqProofs only [go_sem, ↓reduceIte, Nat.reduceEqDiff, Nat.reduceAdd, Nat.reduceSub, Nat.reduceMul, Nat.reduceLeDiff, Nat.reduceLT, Nat.reduceBEq, Nat.reduceBNe, reduceCtorEq, beq_self_eq_true, Int.toNat_natCast, List.length_map, List.length_nil, Int.reduceToNat, Int.reduceAdd, Int.reduceSub, Int.reduceMul, Int.reduceLT, Int.reduceLE, Int.reduceEq, Int.reduceBEq, Int.reduceNeg, decide_true, decide_false, Nat.le_max_left, Nat.le_max_right, ne_eq, not_true_eq_false, not_false_eq_true, Int.natCast_zero, gt_iff_lt, ge_iff_le, Int.reduceGT, Int.reduceGE, Bool.false_and, Bool.and_false, Bool.true_and, Bool.and_true, ir134_l0, e4, e6, d1]
    exact .exit rfl
theorem law_TenantSorted (l : List Int) (hl : I64s l) : OkF (F PP shF 134 [dL l] [] 0) (fun d _ => d = dB true) := by
  refine F_ok PP134 rfl ⟨by simp [ir134], by simp⟩ ?_
  by_cases hlen : l.length ≤ 200
  · have L := FV_Light l
    rw [decide_eq_true hlen] at L
    obtain ⟨c, hc, hF⟩ := FV_Config l hl
    have ht := hc.t1
    have B1 := FVF_Order' c hc
    have rl := rOrd_len (bef c) c.tens.length
    have n1 : ∀ x : Int, (x != x) = false := fun x => by simp
    have key := sorted_l0 c hc (rOrd (bef c) c.tens.length) (by omega) (fun x hx => by have := rOrd_mem.1 hx; omega) (rOrd_sorted (bef_sto c) _) 0
    generalize rOrd (bef c) c.tens.length = o at *
    simp -implicitDefEqProofs only [go_sem, ↓reduceIte, Nat.reduceEqDiff, Nat.reduceAdd, Nat.reduceSub, Nat.reduceMul, Nat.reduceLeDiff, Nat.reduceLT, Nat.reduceBEq, Nat.reduceBNe, reduceCtorEq, beq_self_eq_true, Int.toNat_natCast, List.length_map, List.length_nil, Int.reduceToNat, Int.reduceAdd, Int.reduceSub, Int.reduceMul, Int.reduceLT, Int.reduceLE, Int.reduceEq, Int.reduceBEq, Int.reduceNeg, decide_true, decide_false, Nat.le_max_left, Nat.le_max_right, ne_eq, not_true_eq_false, not_false_eq_true, Int.natCast_zero, gt_iff_lt, ge_iff_le, Int.reduceGT, Int.reduceGE, Bool.false_and, Bool.and_false, Bool.true_and, Bool.and_true, ir134, vpS L rfl, vpL hF rfl, eK, vpS FV_awake05 rfl, vpF B1 rfl, n1, rl]
    refine (key _ ⟨?_, ?_, ?_, ?_, ?_, by omega⟩).mono ?_ <;> (try simp -implicitDefEqProofs only [go_sem, ↓reduceIte, Nat.reduceEqDiff, Nat.reduceAdd, Nat.reduceSub, Nat.reduceMul, Nat.reduceLeDiff, Nat.reduceLT, Nat.reduceBEq, Nat.reduceBNe, reduceCtorEq, beq_self_eq_true, Int.toNat_natCast, List.length_map, List.length_nil, Int.reduceToNat, Int.reduceAdd, Int.reduceSub, Int.reduceMul, Int.reduceLT, Int.reduceLE, Int.reduceEq, Int.reduceBEq, Int.reduceNeg, decide_true, decide_false, Nat.le_max_left, Nat.le_max_right, ne_eq, not_true_eq_false, not_false_eq_true, Int.natCast_zero, gt_iff_lt, ge_iff_le, Int.reduceGT, Int.reduceGE, Bool.false_and, Bool.and_false, Bool.true_and, Bool.and_true, eK, seenN])
    rintro e ⟨E, H⟩ rfl
    simp -implicitDefEqProofs only [go_sem, ↓reduceIte, Nat.reduceEqDiff, Nat.reduceAdd, Nat.reduceSub, Nat.reduceMul, Nat.reduceLeDiff, Nat.reduceLT, Nat.reduceBEq, Nat.reduceBNe, reduceCtorEq, beq_self_eq_true, Int.toNat_natCast, List.length_map, List.length_nil, Int.reduceToNat, Int.reduceAdd, Int.reduceSub, Int.reduceMul, Int.reduceLT, Int.reduceLE, Int.reduceEq, Int.reduceBEq, Int.reduceNeg, decide_true, decide_false, Nat.le_max_left, Nat.le_max_right, ne_eq, not_true_eq_false, not_false_eq_true, Int.natCast_zero, gt_iff_lt, ge_iff_le, Int.reduceGT, Int.reduceGE, Bool.false_and, Bool.and_false, Bool.true_and, Bool.and_true, ]
  · have L := FV_Light l
    rw [decide_eq_false hlen] at L
    simp -implicitDefEqProofs only [go_sem, ↓reduceIte, Nat.reduceEqDiff, Nat.reduceAdd, Nat.reduceSub, Nat.reduceMul, Nat.reduceLeDiff, Nat.reduceLT, Nat.reduceBEq, Nat.reduceBNe, reduceCtorEq, beq_self_eq_true, Int.toNat_natCast, List.length_map, List.length_nil, Int.reduceToNat, Int.reduceAdd, Int.reduceSub, Int.reduceMul, Int.reduceLT, Int.reduceLE, Int.reduceEq, Int.reduceBEq, Int.reduceNeg, decide_true, decide_false, Nat.le_max_left, Nat.le_max_right, ne_eq, not_true_eq_false, not_false_eq_true, Int.natCast_zero, gt_iff_lt, ge_iff_le, Int.reduceGT, Int.reduceGE, Bool.false_and, Bool.and_false, Bool.true_and, Bool.and_true, ir134, vpS L rfl, vpS FV_awake05 rfl]
end Go.Proofs.Cp
