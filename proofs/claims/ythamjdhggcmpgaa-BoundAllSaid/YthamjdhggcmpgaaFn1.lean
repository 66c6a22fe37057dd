/- What the functions answer (part 1). -/
import Derived.Test.YthamjdhggcmpgaaFn0
set_option linter.unusedSimpArgs false
set_option linter.unusedVariables false
set_option maxRecDepth 100000
namespace Go.Proofs.Cp
open Go
theorem booked_l0 (p : Prob) (hc : ConfOk p.conf) (ps : List Plc) (N : Nat) (hN : N ≤ ps.length) (hN2 : N ≤ p.conf.tens.length) : ∀ k w, L25 p ps N k w → Ok (R PP shF 0 63 (.loop ir25_l0) w) (Q25 p ps N) := by
  refine Ok_up N (L25 p ps N) fun k w hI => ?_
  obtain ⟨E, H⟩ := w
  obtain ⟨ver, e2, h2, e5, h5, e22, e23, e24, hk⟩ := hI
  simp only at e2 h2 e5 h5 e22 e23 e24
  have hn := hc.lens.c
  have hn7 := hc.c1
  have ht5 := hc.t1
  have w1 : IntKind.wrap .i64 ((k : Int) + 1) = ((k + 1 : Nat) : Int) := by rw [w64 (by omega) (by omega)]; rfl
  by_cases hlt : k < N
  · have d1 : decide ((k : Int) < (N : Int)) = true := by simp; omega
    have q1 : (k : Int) < ((min N ps.length : Nat) : Int) := by omega
    have q1b : (k : Int) < (N : Int) ∧ (k : Int) < (ps.length : Int) := by omega
    have q0 : (0 : Int) ≤ (k : Int) := by omega
    have g1 := getD_at (l := ps) (i := k) (d := ⟨0, 0⟩) (by omega)
    have g2 := getD_at (l := p.conf.tens) (i := k) (d := ⟨0, 0, 0, 0, 0, 0, false⟩) (by omega)
    have q2 : (k : Int) < (p.conf.tens.length : Int) := by omega
    have B1 := FV_cell p (plc ps k).home
    have B2 := FV_cell p (plc ps k).sby
    have ht := ten_ok hc (k := k) (by omega)
    have tk : (List.take N ps)[k]? = some (plc ps k) := by rw [List.getElem?_take, if_pos hlt]; exact g1
    have tl : (k : Int) < ((List.take N ps).length : Int) := by rw [List.length_take]; omega
    have D1 := addAt_def (booked p.conf ps k) (plc ps k).home (ten p.conf k).load
    have D2 := addAt_def (addAt (booked p.conf ps k) (plc ps k).home (ten p.conf k).load) (plc ps k).sby (ten p.conf k).shadow
    have bd1 := booked_bd hc ps k (by omega)
    have bd2 := addAt_bd (i := (plc ps k).home) (x := (ten p.conf k).load) (X := 12) bd1 ⟨by have := ht.l0; omega, ht.l1⟩
    have bl1 := booked_len p.conf ps k
    have bl2 := addAt_len (booked p.conf ps k) (plc ps k).home (ten p.conf k).load
    rw [bl1] at bl2
    have hst : booked p.conf ps (k + 1) = addAt (addAt (booked p.conf ps k) (plc ps k).home (ten p.conf k).load) (plc ps k).sby (ten p.conf k).shadow := rfl
    have ht1 : (p.conf.tens.getD k ⟨0, 0, 0, 0, 0, 0, false⟩).load = (ten p.conf k).load := rfl
    have ht2 : (p.conf.tens.getD k ⟨0, 0, 0, 0, 0, 0, false⟩).shadow = (ten p.conf k).shadow := rfl
    have l0 := ht.l0
    have l1 := ht.l1
    have s0 := ht.s0
    have s1 := ht.s1
    generalize hD : booked p.conf ps (k + 1) = bb at *
    generalize hA : addAt (booked p.conf ps k) (plc ps k).home (ten p.conf k).load = A at *
    generalize hB : booked p.conf ps k = B at *
    generalize hC : addAt A (plc ps k).sby (ten p.conf k).shadow = C at *
    subst hst
    by_cases c1 : 0 ≤ (plc ps k).home ∧ (plc ps k).home < p.conf.cells.length
    · have f1 := D1.1 (by rw [bl1]; exact c1)
      have g3 := getD_at (l := B) (i := (plc ps k).home.toNat) (d := 0) (by rw [bl1]; omega)
      have b3 := bd1 (plc ps k).home.toNat
      have w2 : IntKind.wrap .i64 (B.getD (plc ps k).home.toNat 0 + (ten p.conf k).load) = B.getD (plc ps k).home.toNat 0 + (ten p.conf k).load := w64 (by omega) (by omega)
      rw [show (decide (0 ≤ (plc ps k).home) && decide ((plc ps k).home < (p.conf.cells.length : Int))) = true by simp; exact c1] at B1
      by_cases c2 : 0 ≤ (plc ps k).sby ∧ (plc ps k).sby < p.conf.cells.length
      · have f2 := D2.1 (by rw [bl2]; exact c2)
        have g4 := getD_at (l := A) (i := (plc ps k).sby.toNat) (d := 0) (by rw [bl2]; omega)
        have b4 := bd2 (plc ps k).sby.toNat
        have w3 : IntKind.wrap .i64 (A.getD (plc ps k).sby.toNat 0 + (ten p.conf k).shadow) = A.getD (plc ps k).sby.toNat 0 + (ten p.conf k).shadow := w64 (by omega) (by omega)
        rw [show (decide (0 ≤ (plc ps k).sby) && decide ((plc ps k).sby < (p.conf.cells.length : Int))) = true by simp; exact c2] at B2
        simp -implicitDefEqProofs only [go_sem, ↓reduceIte, Nat.reduceEqDiff, Nat.reduceAdd, Nat.reduceSub, Nat.reduceMul, Nat.reduceLeDiff, Nat.reduceLT, Nat.reduceBEq, Nat.reduceBNe, reduceCtorEq, beq_self_eq_true, Int.toNat_natCast, List.length_map, List.length_nil, Int.reduceToNat, Int.reduceAdd, Int.reduceSub, Int.reduceMul, Int.reduceLT, Int.reduceLE, Int.reduceEq, Int.reduceBEq, Int.reduceNeg, decide_true, decide_false, Nat.le_max_left, Nat.le_max_right, ne_eq, not_true_eq_false, not_false_eq_true, Int.natCast_zero, gt_iff_lt, ge_iff_le, Int.reduceGT, Int.reduceGE, Bool.false_and, Bool.and_false, Bool.true_and, Bool.and_true, ir25_l0, eQ, eK, e2, h2, e5, h5, e22, e23, e24, d1, w1, q0, q1, q1b, q2, tk, tl, g2, vpS B1 rfl, vpS B2 rfl, c1, c2, bl1, bl2, g3, g4, ht1, ht2, w2, w3, f1, f2]
        refine .next hlt ⟨ver, ?_, ?_, ?_, ?_, ?_, ?_, ?_, by omega⟩ <;> simp -implicitDefEqProofs only [go_sem, ↓reduceIte, Nat.reduceEqDiff, Nat.reduceAdd, Nat.reduceSub, Nat.reduceMul, Nat.reduceLeDiff, Nat.reduceLT, Nat.reduceBEq, Nat.reduceBNe, reduceCtorEq, beq_self_eq_true, Int.toNat_natCast, List.length_map, List.length_nil, Int.reduceToNat, Int.reduceAdd, Int.reduceSub, Int.reduceMul, Int.reduceLT, Int.reduceLE, Int.reduceEq, Int.reduceBEq, Int.reduceNeg, decide_true, decide_false, Nat.le_max_left, Nat.le_max_right, ne_eq, not_true_eq_false, not_false_eq_true, Int.natCast_zero, gt_iff_lt, ge_iff_le, Int.reduceGT, Int.reduceGE, Bool.false_and, Bool.and_false, Bool.true_and, Bool.and_true, e2, h2, e5, e22, e23, w1, eQ, hD]
      · have f2 := D2.2 (by rw [bl2]; exact c2)
        rw [show (decide (0 ≤ (plc ps k).sby) && decide ((plc ps k).sby < (p.conf.cells.length : Int))) = false by simp; omega] at B2
        simp -implicitDefEqProofs only [go_sem, ↓reduceIte, Nat.reduceEqDiff, Nat.reduceAdd, Nat.reduceSub, Nat.reduceMul, Nat.reduceLeDiff, Nat.reduceLT, Nat.reduceBEq, Nat.reduceBNe, reduceCtorEq, beq_self_eq_true, Int.toNat_natCast, List.length_map, List.length_nil, Int.reduceToNat, Int.reduceAdd, Int.reduceSub, Int.reduceMul, Int.reduceLT, Int.reduceLE, Int.reduceEq, Int.reduceBEq, Int.reduceNeg, decide_true, decide_false, Nat.le_max_left, Nat.le_max_right, ne_eq, not_true_eq_false, not_false_eq_true, Int.natCast_zero, gt_iff_lt, ge_iff_le, Int.reduceGT, Int.reduceGE, Bool.false_and, Bool.and_false, Bool.true_and, Bool.and_true, ir25_l0, eQ, eK, e2, h2, e5, h5, e22, e23, e24, d1, w1, q0, q1, q1b, q2, tk, tl, g2, vpS B1 rfl, vpS B2 rfl, c1, bl1, bl2, g3, ht1, ht2, w2, f1]
        refine .next hlt ⟨ver, ?_, ?_, ?_, ?_, ?_, ?_, ?_, by omega⟩ <;> simp -implicitDefEqProofs only [go_sem, ↓reduceIte, Nat.reduceEqDiff, Nat.reduceAdd, Nat.reduceSub, Nat.reduceMul, Nat.reduceLeDiff, Nat.reduceLT, Nat.reduceBEq, Nat.reduceBNe, reduceCtorEq, beq_self_eq_true, Int.toNat_natCast, List.length_map, List.length_nil, Int.reduceToNat, Int.reduceAdd, Int.reduceSub, Int.reduceMul, Int.reduceLT, Int.reduceLE, Int.reduceEq, Int.reduceBEq, Int.reduceNeg, decide_true, decide_false, Nat.le_max_left, Nat.le_max_right, ne_eq, not_true_eq_false, not_false_eq_true, Int.natCast_zero, gt_iff_lt, ge_iff_le, Int.reduceGT, Int.reduceGE, Bool.false_and, Bool.and_false, Bool.true_and, Bool.and_true, e2, h2, e5, e22, e23, w1, eQ, hD, f2]
    · have f1 := D1.2 (by rw [bl1]; exact c1)
      subst f1
      rw [show (decide (0 ≤ (plc ps k).home) && decide ((plc ps k).home < (p.conf.cells.length : Int))) = false by simp; omega] at B1
      by_cases c2 : 0 ≤ (plc ps k).sby ∧ (plc ps k).sby < p.conf.cells.length
      · have f2 := D2.1 (by rw [bl2]; exact c2)
        have g4 := getD_at (l := A) (i := (plc ps k).sby.toNat) (d := 0) (by rw [bl2]; omega)
        have b4 := bd2 (plc ps k).sby.toNat
        have w3 : IntKind.wrap .i64 (A.getD (plc ps k).sby.toNat 0 + (ten p.conf k).shadow) = A.getD (plc ps k).sby.toNat 0 + (ten p.conf k).shadow := w64 (by omega) (by omega)
        rw [show (decide (0 ≤ (plc ps k).sby) && decide ((plc ps k).sby < (p.conf.cells.length : Int))) = true by simp; exact c2] at B2
        simp -implicitDefEqProofs only [go_sem, ↓reduceIte, Nat.reduceEqDiff, Nat.reduceAdd, Nat.reduceSub, Nat.reduceMul, Nat.reduceLeDiff, Nat.reduceLT, Nat.reduceBEq, Nat.reduceBNe, reduceCtorEq, beq_self_eq_true, Int.toNat_natCast, List.length_map, List.length_nil, Int.reduceToNat, Int.reduceAdd, Int.reduceSub, Int.reduceMul, Int.reduceLT, Int.reduceLE, Int.reduceEq, Int.reduceBEq, Int.reduceNeg, decide_true, decide_false, Nat.le_max_left, Nat.le_max_right, ne_eq, not_true_eq_false, not_false_eq_true, Int.natCast_zero, gt_iff_lt, ge_iff_le, Int.reduceGT, Int.reduceGE, Bool.false_and, Bool.and_false, Bool.true_and, Bool.and_true, ir25_l0, eQ, eK, e2, h2, e5, h5, e22, e23, e24, d1, w1, q0, q1, q1b, q2, tk, tl, g2, vpS B1 rfl, vpS B2 rfl, c2, bl1, bl2, g4, ht1, ht2, w3, f2]
        refine .next hlt ⟨ver, ?_, ?_, ?_, ?_, ?_, ?_, ?_, by omega⟩ <;> simp -implicitDefEqProofs only [go_sem, ↓reduceIte, Nat.reduceEqDiff, Nat.reduceAdd, Nat.reduceSub, Nat.reduceMul, Nat.reduceLeDiff, Nat.reduceLT, Nat.reduceBEq, Nat.reduceBNe, reduceCtorEq, beq_self_eq_true, Int.toNat_natCast, List.length_map, List.length_nil, Int.reduceToNat, Int.reduceAdd, Int.reduceSub, Int.reduceMul, Int.reduceLT, Int.reduceLE, Int.reduceEq, Int.reduceBEq, Int.reduceNeg, decide_true, decide_false, Nat.le_max_left, Nat.le_max_right, ne_eq, not_true_eq_false, not_false_eq_true, Int.natCast_zero, gt_iff_lt, ge_iff_le, Int.reduceGT, Int.reduceGE, Bool.false_and, Bool.and_false, Bool.true_and, Bool.and_true, e2, h2, e5, e22, e23, w1, eQ, hD]
      · have f2 := D2.2 (by rw [bl2]; exact c2)
        rw [show (decide (0 ≤ (plc ps k).sby) && decide ((plc ps k).sby < (p.conf.cells.length : Int))) = false by simp; omega] at B2
        simp -implicitDefEqProofs only [go_sem, ↓reduceIte, Nat.reduceEqDiff, Nat.reduceAdd, Nat.reduceSub, Nat.reduceMul, Nat.reduceLeDiff, Nat.reduceLT, Nat.reduceBEq, Nat.reduceBNe, reduceCtorEq, beq_self_eq_true, Int.toNat_natCast, List.length_map, List.length_nil, Int.reduceToNat, Int.reduceAdd, Int.reduceSub, Int.reduceMul, Int.reduceLT, Int.reduceLE, Int.reduceEq, Int.reduceBEq, Int.reduceNeg, decide_true, decide_false, Nat.le_max_left, Nat.le_max_right, ne_eq, not_true_eq_false, not_false_eq_true, Int.natCast_zero, gt_iff_lt, ge_iff_le, Int.reduceGT, Int.reduceGE, Bool.false_and, Bool.and_false, Bool.true_and, Bool.and_true, ir25_l0, eQ, eK, e2, h2, e5, h5, e22, e23, e24, d1, w1, q0, q1, q1b, q2, tk, tl, g2, vpS B1 rfl, vpS B2 rfl, bl1, bl2, ht1, ht2]
        refine .next hlt ⟨ver, ?_, ?_, ?_, ?_, ?_, ?_, ?_, by omega⟩ <;> simp -implicitDefEqProofs only [go_sem, ↓reduceIte, Nat.reduceEqDiff, Nat.reduceAdd, Nat.reduceSub, Nat.reduceMul, Nat.reduceLeDiff, Nat.reduceLT, Nat.reduceBEq, Nat.reduceBNe, reduceCtorEq, beq_self_eq_true, Int.toNat_natCast, List.length_map, List.length_nil, Int.reduceToNat, Int.reduceAdd, Int.reduceSub, Int.reduceMul, Int.reduceLT, Int.reduceLE, Int.reduceEq, Int.reduceBEq, Int.reduceNeg, decide_true, decide_false, Nat.le_max_left, Nat.le_max_right, ne_eq, not_true_eq_false, not_false_eq_true, Int.natCast_zero, gt_iff_lt, ge_iff_le, Int.reduceGT, Int.reduceGE, Bool.false_and, Bool.and_false, Bool.true_and, Bool.and_true, e2, h2, e5, h5, e22, e23, w1, eQ, hD, f2]
  · have : k = N := by omega
    subst this
    have d1 : decide ((k : Int) < (k : Int)) = false := by simp
    simp -implicitDefEqProofs only [go_sem, ↓reduceIte, Nat.reduceEqDiff, Nat.reduceAdd, Nat.reduceSub, Nat.reduceMul, Nat.reduceLeDiff, Nat.reduceLT, Nat.reduceBEq, Nat.reduceBNe, reduceCtorEq, beq_self_eq_true, Int.toNat_natCast, List.length_map, List.length_nil, Int.reduceToNat, Int.reduceAdd, Int.reduceSub, Int.reduceMul, Int.reduceLT, Int.reduceLE, Int.reduceEq, Int.reduceBEq, Int.reduceNeg, decide_true, decide_false, Nat.le_max_left, Nat.le_max_right, ne_eq, not_true_eq_false, not_false_eq_true, Int.natCast_zero, gt_iff_lt, ge_iff_le, Int.reduceGT, Int.reduceGE, Bool.false_and, Bool.and_false, Bool.true_and, Bool.and_true, ir25_l0, e23, e24, d1]
    exact .exit ⟨rfl, ver, by simp -implicitDefEqProofs only [go_sem, ↓reduceIte, Nat.reduceEqDiff, Nat.reduceAdd, Nat.reduceSub, Nat.reduceMul, Nat.reduceLeDiff, Nat.reduceLT, Nat.reduceBEq, Nat.reduceBNe, reduceCtorEq, beq_self_eq_true, Int.toNat_natCast, List.length_map, List.length_nil, Int.reduceToNat, Int.reduceAdd, Int.reduceSub, Int.reduceMul, Int.reduceLT, Int.reduceLE, Int.reduceEq, Int.reduceBEq, Int.reduceNeg, decide_true, decide_false, Nat.le_max_left, Nat.le_max_right, ne_eq, not_true_eq_false, not_false_eq_true, Int.natCast_zero, gt_iff_lt, ge_iff_le, Int.reduceGT, Int.reduceGE, Bool.false_and, Bool.and_false, Bool.true_and, Bool.and_true, e5], h5⟩
theorem FVF_Booked (p : Prob) (hc : ConfOk p.conf) (ps : List Plc) (hp : ps.length ≤ 1000000) : FVF PP shF 25 [.agg (eQ p), .sl (ps.map eP)] (dL (booked p.conf ps (min ps.length p.conf.tens.length))) := by
  refine FVF_ok (F_ok PP25 rfl ⟨by simp [ir25], by simp⟩ ?_)
  have hn := hc.lens.c
  have hc0 : p.conf.cells.length ≠ 0 := by have := hc.c0; have := hc.z0; have := hc.r0; omega
  have ht := hc.t1
  have m1 : (0 : Int) ≤ (p.conf.cells.length : Int) ∧ (p.conf.cells.length : Int) ≤ (p.conf.cells.length : Int) ∧ ((8 : Nat) : Int) * (p.conf.cells.length : Int) ≤ 281474976710656 ∧ (p.conf.cells.length : Int) ≤ 9223372036854775807 := by omega
  have mn : (if (p.conf.tens.length : Int) < (ps.length : Int) then (p.conf.tens.length : Int) else (ps.length : Int)) = ((min ps.length p.conf.tens.length : Nat) : Int) := by split <;> omega
  have hN1 : min ps.length p.conf.tens.length ≤ ps.length := by omega
  have hN2 : min ps.length p.conf.tens.length ≤ p.conf.tens.length := by omega
  generalize min ps.length p.conf.tens.length = N at *
  have m2 : (0 : Int) ≤ (N : Int) ∧ (N : Int) ≤ (ps.length : Int) := by omega
  have m3 : (List.map eP ps).all (fun el => el.length == 2) = true := by simp [List.all_eq_true]
  have htk : List.take N (ps.map eP) = (ps.take N).map eP := List.map_take.symm
  have hln : ((List.take N ps).length : Int) = (N : Int) := by rw [List.length_take]; omega
  simp -implicitDefEqProofs only [go_sem, ↓reduceIte, Nat.reduceEqDiff, Nat.reduceAdd, Nat.reduceSub, Nat.reduceMul, Nat.reduceLeDiff, Nat.reduceLT, Nat.reduceBEq, Nat.reduceBNe, reduceCtorEq, beq_self_eq_true, Int.toNat_natCast, List.length_map, List.length_nil, Int.reduceToNat, Int.reduceAdd, Int.reduceSub, Int.reduceMul, Int.reduceLT, Int.reduceLE, Int.reduceEq, Int.reduceBEq, Int.reduceNeg, decide_true, decide_false, Nat.le_max_left, Nat.le_max_right, ne_eq, not_true_eq_false, not_false_eq_true, Int.natCast_zero, gt_iff_lt, ge_iff_le, Int.reduceGT, Int.reduceGE, Bool.false_and, Bool.and_false, Bool.true_and, Bool.and_true, ir25, eQ, eK, m1, mn, m2, m3, htk, hln]
  refine (booked_l0 p hc ps N hN1 hN2 0 _ ?_).mono ?_
  · refine ⟨1, ?_, ?_, ?_, ?_, ?_, ?_, ?_, by omega⟩ <;> simp -implicitDefEqProofs only [go_sem, ↓reduceIte, Nat.reduceEqDiff, Nat.reduceAdd, Nat.reduceSub, Nat.reduceMul, Nat.reduceLeDiff, Nat.reduceLT, Nat.reduceBEq, Nat.reduceBNe, reduceCtorEq, beq_self_eq_true, Int.toNat_natCast, List.length_map, List.length_nil, Int.reduceToNat, Int.reduceAdd, Int.reduceSub, Int.reduceMul, Int.reduceLT, Int.reduceLE, Int.reduceEq, Int.reduceBEq, Int.reduceNeg, decide_true, decide_false, Nat.le_max_left, Nat.le_max_right, ne_eq, not_true_eq_false, not_false_eq_true, Int.natCast_zero, gt_iff_lt, ge_iff_le, Int.reduceGT, Int.reduceGE, Bool.false_and, Bool.and_false, Bool.true_and, Bool.and_true, eQ, booked, List.map_replicate]
  rintro e ⟨E, H⟩ ⟨rfl, ver, e5, h5⟩
  simp only at e5 h5
  have ho : SlB H 13 1 ((booked p.conf ps N).map eI) (.ms 13 ver 0 p.conf.cells.length p.conf.cells.length) := SlB.mk (by simp [booked_len]) hc0 h5
  simp -implicitDefEqProofs only [go_sem, ↓reduceIte, Nat.reduceEqDiff, Nat.reduceAdd, Nat.reduceSub, Nat.reduceMul, Nat.reduceLeDiff, Nat.reduceLT, Nat.reduceBEq, Nat.reduceBNe, reduceCtorEq, beq_self_eq_true, Int.toNat_natCast, List.length_map, List.length_nil, Int.reduceToNat, Int.reduceAdd, Int.reduceSub, Int.reduceMul, Int.reduceLT, Int.reduceLE, Int.reduceEq, Int.reduceBEq, Int.reduceNeg, decide_true, decide_false, Nat.le_max_left, Nat.le_max_right, ne_eq, not_true_eq_false, not_false_eq_true, Int.natCast_zero, gt_iff_lt, ge_iff_le, Int.reduceGT, Int.reduceGE, Bool.false_and, Bool.and_false, Bool.true_and, Bool.and_true, e5, ho.frz (by decide) (closed_eI _), ho.fresh (by decide) (lits_eI _)]
theorem fin8 {n : Nat} {a : Int} (h0 : 0 ≤ a) (h1 : a < n) : ∃ x : Fin n, a = ((x.val : Nat) : Int) := ⟨⟨a.toNat, by omega⟩, by simp; omega⟩
theorem allR_lt {R : Int} (h : 0 ≤ R ∧ R ≤ 3) : 0 ≤ allR R ∧ allR R < 8 := by
  obtain rfl | rfl | rfl | rfl : R = 0 ∨ R = 1 ∨ R = 2 ∨ R = 3 := by omega
  all_goals decide
theorem orI_pow8 : ∀ a : Fin 8, ∀ R : Fin 4, ∀ r : Fin 3, ((a.val : Nat) : Int) ≤ allR ((R.val : Nat) : Int) → ((r.val : Nat) : Int) < ((R.val : Nat) : Int) → 0 ≤ orI .i64 ((a.val : Nat) : Int) (2 ^ (((r.val : Nat) : Int)).toNat) ∧ orI .i64 ((a.val : Nat) : Int) (2 ^ (((r.val : Nat) : Int)).toNat) ≤ allR ((R.val : Nat) : Int) := by decide +kernel
theorem orI_pow {a R r : Int} (hR : 0 ≤ R ∧ R ≤ 3) (ha : 0 ≤ a ∧ a ≤ allR R) (hr : 0 ≤ r ∧ r < R) : 0 ≤ orI .i64 a (2 ^ r.toNat) ∧ orI .i64 a (2 ^ r.toNat) ≤ allR R := by
  have := allR_lt hR
  obtain ⟨x, rfl⟩ := fin8 (n := 8) ha.1 (by omega)
  obtain ⟨y, rfl⟩ := fin8 (n := 4) hR.1 (by omega)
  obtain ⟨z, rfl⟩ := fin8 (n := 3) hr.1 (by omega)
  exact orI_pow8 x y z ha.2 hr.2
theorem reach_bd {p : Prob} (hc : ConfOk p.conf) (t : Int) : ∀ k : Nat, k ≤ p.conf.cells.length → 0 ≤ reach p t k ∧ reach p t k ≤ allR p.conf.regions
  | 0, _ => by
    have h0 := hc.r0
    have h1 := hc.r1
    have := allR_lt (R := p.conf.regions) ⟨by omega, h1⟩
    simp only [reach]; omega
  | k + 1, hk => by
    have h := reach_bd hc t k (by omega)
    have h0 := hc.r0
    simp only [reach]
    split
    · exact orI_pow ⟨by omega, hc.r1⟩ h (hc.regOf (by omega) (by omega))
    · exact h
def needB (p : Prob) (ps : List Plc) (s : Int) (k : Nat) : Bool := (plc ps k).home == -1 && andNotI .i64 (reach p (k : Nat) p.conf.cells.length) s == 0
def need (p : Prob) (ps : List Plc) (s : Int) : Nat → Int
  | 0 => 0
  | k + 1 => if needB p ps s k = true then need p ps s k + (ten p.conf (k : Nat)).load else need p ps s k
theorem need_bd {p : Prob} (hc : ConfOk p.conf) (ps : List Plc) (s : Int) : ∀ k : Nat, k ≤ p.conf.tens.length → 0 ≤ need p ps s k ∧ need p ps s k ≤ 12 * k
  | 0, _ => by simp [need]
  | k + 1, hk => by
    have h := need_bd hc ps s k (by omega)
    have ht := ten_ok hc (k := k) (by omega)
    have := ht.l0
    have := ht.l1
    simp only [need]
    split <;> omega
def L19 (p : Prob) (ps : List Plc) (s : Int) (k : Nat) (w : VSt) : Prop := gt .bad w.E 3 = .mp 3 1 0 0 ∧ hg w.H 3 = ⟨1, 0, true, [eQ p]⟩ ∧ gt .bad w.E 2 = dI s ∧ gt .bad w.E 7 = dI (need p ps s k) ∧
  gt .bad w.E 18 = .sl (ps.map eP) ∧ gt .bad w.E 19 = dI (ps.length : Nat) ∧ gt .bad w.E 20 = dI (k : Nat) ∧ k ≤ ps.length
theorem need_l0 (p : Prob) (hc : ConfOk p.conf) (ps : List Plc) (hp : ps.length = p.conf.tens.length) (s : Int) : ∀ k w, L19 p ps s k w → Ok (R PP shF 0 47 (.loop ir19_l0) w) (fun e w => e = .exit 0 ∧ gt .bad w.E 7 = dI (need p ps s ps.length)) := by
  refine Ok_up ps.length (L19 p ps s) fun k w hI => ?_
  obtain ⟨E, H⟩ := w
  obtain ⟨e3, h3, e2, e7, e18, e19, e20, hk⟩ := hI
  simp only at e3 h3 e2 e7 e18 e19 e20
  have ht5 := hc.t1
  have w1 : IntKind.wrap .i64 ((k : Int) + 1) = ((k + 1 : Nat) : Int) := by rw [w64 (by omega) (by omega)]; rfl
  by_cases hlt : k < ps.length
  · have d1 : decide ((k : Int) < (ps.length : Int)) = true := by simp; omega
    have q1 : (k : Int) < (ps.length : Int) := by omega
    have q0 : (0 : Int) ≤ (k : Int) := by omega
    have q2 : (k : Int) < (p.conf.tens.length : Int) := by omega
    have g1 : ps[k]? = some (plc ps k) := getD_at (l := ps) (i := k) (d := ⟨0, 0⟩) (by omega)
    have g2 := getD_at (l := p.conf.tens) (i := k) (d := ⟨0, 0, 0, 0, 0, 0, false⟩) (by omega)
    have ht1 : (p.conf.tens.getD k ⟨0, 0, 0, 0, 0, 0, false⟩).load = (ten p.conf k).load := rfl
    have B := FV_Reach p hc k
    cases hh : (plc ps k).home == -1 with
    | true =>
      cases ha : (andNotI .i64 (reach p (k : Nat) p.conf.cells.length) s == 0) with
      | true =>
        have hu : need p ps s (k + 1) = need p ps s k + (ten p.conf (k : Nat)).load := by simp only [need, needB, hh, ha]; rfl
        have bd := need_bd hc ps s (k + 1) (by omega)
        have w2 : IntKind.wrap .i64 (need p ps s k + (ten p.conf (k : Nat)).load) = need p ps s (k + 1) := by rw [← hu]; exact w64 (by omega) (by omega)
        simp -implicitDefEqProofs only [go_sem, ↓reduceIte, Nat.reduceEqDiff, Nat.reduceAdd, Nat.reduceSub, Nat.reduceMul, Nat.reduceLeDiff, Nat.reduceLT, Nat.reduceBEq, Nat.reduceBNe, reduceCtorEq, beq_self_eq_true, Int.toNat_natCast, List.length_map, List.length_nil, Int.reduceToNat, Int.reduceAdd, Int.reduceSub, Int.reduceMul, Int.reduceLT, Int.reduceLE, Int.reduceEq, Int.reduceBEq, Int.reduceNeg, decide_true, decide_false, Nat.le_max_left, Nat.le_max_right, ne_eq, not_true_eq_false, not_false_eq_true, Int.natCast_zero, gt_iff_lt, ge_iff_le, Int.reduceGT, Int.reduceGE, Bool.false_and, Bool.and_false, Bool.true_and, Bool.and_true, ir19_l0, eQ, eK, e3, h3, e2, e7, e18, e19, e20, d1, w1, q0, q1, q2, g1, g2, hh, ha, vpS B rfl, ht1, w2]
        refine .next hlt ⟨?_, ?_, ?_, ?_, ?_, ?_, ?_, by omega⟩ <;> simp -implicitDefEqProofs only [go_sem, ↓reduceIte, Nat.reduceEqDiff, Nat.reduceAdd, Nat.reduceSub, Nat.reduceMul, Nat.reduceLeDiff, Nat.reduceLT, Nat.reduceBEq, Nat.reduceBNe, reduceCtorEq, beq_self_eq_true, Int.toNat_natCast, List.length_map, List.length_nil, Int.reduceToNat, Int.reduceAdd, Int.reduceSub, Int.reduceMul, Int.reduceLT, Int.reduceLE, Int.reduceEq, Int.reduceBEq, Int.reduceNeg, decide_true, decide_false, Nat.le_max_left, Nat.le_max_right, ne_eq, not_true_eq_false, not_false_eq_true, Int.natCast_zero, gt_iff_lt, ge_iff_le, Int.reduceGT, Int.reduceGE, Bool.false_and, Bool.and_false, Bool.true_and, Bool.and_true, e3, h3, e2, e18, e19, w1, eQ]
      | false =>
        have hu : need p ps s (k + 1) = need p ps s k := by simp only [need, needB, hh, ha]; rfl
        simp -implicitDefEqProofs only [go_sem, ↓reduceIte, Nat.reduceEqDiff, Nat.reduceAdd, Nat.reduceSub, Nat.reduceMul, Nat.reduceLeDiff, Nat.reduceLT, Nat.reduceBEq, Nat.reduceBNe, reduceCtorEq, beq_self_eq_true, Int.toNat_natCast, List.length_map, List.length_nil, Int.reduceToNat, Int.reduceAdd, Int.reduceSub, Int.reduceMul, Int.reduceLT, Int.reduceLE, Int.reduceEq, Int.reduceBEq, Int.reduceNeg, decide_true, decide_false, Nat.le_max_left, Nat.le_max_right, ne_eq, not_true_eq_false, not_false_eq_true, Int.natCast_zero, gt_iff_lt, ge_iff_le, Int.reduceGT, Int.reduceGE, Bool.false_and, Bool.and_false, Bool.true_and, Bool.and_true, ir19_l0, eQ, eK, e3, h3, e2, e7, e18, e19, e20, d1, w1, q0, q1, q2, g1, g2, hh, ha, vpS B rfl, ht1]
        refine .next hlt ⟨?_, ?_, ?_, ?_, ?_, ?_, ?_, by omega⟩ <;> simp -implicitDefEqProofs only [go_sem, ↓reduceIte, Nat.reduceEqDiff, Nat.reduceAdd, Nat.reduceSub, Nat.reduceMul, Nat.reduceLeDiff, Nat.reduceLT, Nat.reduceBEq, Nat.reduceBNe, reduceCtorEq, beq_self_eq_true, Int.toNat_natCast, List.length_map, List.length_nil, Int.reduceToNat, Int.reduceAdd, Int.reduceSub, Int.reduceMul, Int.reduceLT, Int.reduceLE, Int.reduceEq, Int.reduceBEq, Int.reduceNeg, decide_true, decide_false, Nat.le_max_left, Nat.le_max_right, ne_eq, not_true_eq_false, not_false_eq_true, Int.natCast_zero, gt_iff_lt, ge_iff_le, Int.reduceGT, Int.reduceGE, Bool.false_and, Bool.and_false, Bool.true_and, Bool.and_true, e3, h3, e2, e7, e18, e19, w1, eQ, hu]
    | false =>
      have hu : need p ps s (k + 1) = need p ps s k := by simp only [need, needB, hh]; rfl
      simp -implicitDefEqProofs only [go_sem, ↓reduceIte, Nat.reduceEqDiff, Nat.reduceAdd, Nat.reduceSub, Nat.reduceMul, Nat.reduceLeDiff, Nat.reduceLT, Nat.reduceBEq, Nat.reduceBNe, reduceCtorEq, beq_self_eq_true, Int.toNat_natCast, List.length_map, List.length_nil, Int.reduceToNat, Int.reduceAdd, Int.reduceSub, Int.reduceMul, Int.reduceLT, Int.reduceLE, Int.reduceEq, Int.reduceBEq, Int.reduceNeg, decide_true, decide_false, Nat.le_max_left, Nat.le_max_right, ne_eq, not_true_eq_false, not_false_eq_true, Int.natCast_zero, gt_iff_lt, ge_iff_le, Int.reduceGT, Int.reduceGE, Bool.false_and, Bool.and_false, Bool.true_and, Bool.and_true, ir19_l0, eQ, eK, e3, h3, e2, e7, e18, e19, e20, d1, w1, q0, q1, q2, g1, g2, hh, vpS B rfl, ht1]
      refine .next hlt ⟨?_, ?_, ?_, ?_, ?_, ?_, ?_, by omega⟩ <;> simp -implicitDefEqProofs only [go_sem, ↓reduceIte, Nat.reduceEqDiff, Nat.reduceAdd, Nat.reduceSub, Nat.reduceMul, Nat.reduceLeDiff, Nat.reduceLT, Nat.reduceBEq, Nat.reduceBNe, reduceCtorEq, beq_self_eq_true, Int.toNat_natCast, List.length_map, List.length_nil, Int.reduceToNat, Int.reduceAdd, Int.reduceSub, Int.reduceMul, Int.reduceLT, Int.reduceLE, Int.reduceEq, Int.reduceBEq, Int.reduceNeg, decide_true, decide_false, Nat.le_max_left, Nat.le_max_right, ne_eq, not_true_eq_false, not_false_eq_true, Int.natCast_zero, gt_iff_lt, ge_iff_le, Int.reduceGT, Int.reduceGE, Bool.false_and, Bool.and_false, Bool.true_and, Bool.and_true, e3, h3, e2, e7, e18, e19, w1, eQ, hu]
  · have : k = ps.length := by omega
    subst this
    have d1 : decide ((ps.length : Int) < (ps.length : Int)) = false := by simp
    simp -implicitDefEqProofs only [go_sem, ↓reduceIte, Nat.reduceEqDiff, Nat.reduceAdd, Nat.reduceSub, Nat.reduceMul, Nat.reduceLeDiff, Nat.reduceLT, Nat.reduceBEq, Nat.reduceBNe, reduceCtorEq, beq_self_eq_true, Int.toNat_natCast, List.length_map, List.length_nil, Int.reduceToNat, Int.reduceAdd, Int.reduceSub, Int.reduceMul, Int.reduceLT, Int.reduceLE, Int.reduceEq, Int.reduceBEq, Int.reduceNeg, decide_true, decide_false, Nat.le_max_left, Nat.le_max_right, ne_eq, not_true_eq_false, not_false_eq_true, Int.natCast_zero, gt_iff_lt, ge_iff_le, Int.reduceGT, Int.reduceGE, Bool.false_and, Bool.and_false, Bool.true_and, Bool.and_true, ir19_l0, e19, e20, d1]
    exact .exit ⟨rfl, by simp -implicitDefEqProofs only [go_sem, ↓reduceIte, Nat.reduceEqDiff, Nat.reduceAdd, Nat.reduceSub, Nat.reduceMul, Nat.reduceLeDiff, Nat.reduceLT, Nat.reduceBEq, Nat.reduceBNe, reduceCtorEq, beq_self_eq_true, Int.toNat_natCast, List.length_map, List.length_nil, Int.reduceToNat, Int.reduceAdd, Int.reduceSub, Int.reduceMul, Int.reduceLT, Int.reduceLE, Int.reduceEq, Int.reduceBEq, Int.reduceNeg, decide_true, decide_false, Nat.le_max_left, Nat.le_max_right, ne_eq, not_true_eq_false, not_false_eq_true, Int.natCast_zero, gt_iff_lt, ge_iff_le, Int.reduceGT, Int.reduceGE, Bool.false_and, Bool.and_false, Bool.true_and, Bool.and_true, e7]⟩
theorem FV_Need (p : Prob) (hc : ConfOk p.conf) (ps : List Plc) (hp : ps.length = p.conf.tens.length) (s : Int) : FV PP shF 19 [.agg (eQ p), .sl (ps.map eP), dI s] = some (dI (need p ps s ps.length)) := by
  refine FV_ok (F_ok PP19 rfl ⟨by simp [ir19], by simp⟩ ?_)
  have hlt : ¬ (p.conf.tens.length : Int) < (ps.length : Int) := by omega
  have m2 : (0 : Int) ≤ (ps.length : Int) ∧ (ps.length : Int) ≤ (ps.length : Int) := by omega
  have m3 : (List.map eP ps).all (fun el => el.length == 2) = true := by simp [List.all_eq_true]
  have htk : List.take ps.length (ps.map eP) = ps.map eP := List.take_of_length_le (by simp)
  simp -implicitDefEqProofs only [go_sem, ↓reduceIte, Nat.reduceEqDiff, Nat.reduceAdd, Nat.reduceSub, Nat.reduceMul, Nat.reduceLeDiff, Nat.reduceLT, Nat.reduceBEq, Nat.reduceBNe, reduceCtorEq, beq_self_eq_true, Int.toNat_natCast, List.length_map, List.length_nil, Int.reduceToNat, Int.reduceAdd, Int.reduceSub, Int.reduceMul, Int.reduceLT, Int.reduceLE, Int.reduceEq, Int.reduceBEq, Int.reduceNeg, decide_true, decide_false, Nat.le_max_left, Nat.le_max_right, ne_eq, not_true_eq_false, not_false_eq_true, Int.natCast_zero, gt_iff_lt, ge_iff_le, Int.reduceGT, Int.reduceGE, Bool.false_and, Bool.and_false, Bool.true_and, Bool.and_true, ir19, eQ, eK, hlt, m2, m3, htk]
  refine (need_l0 p hc ps hp s 0 _ ?_).mono ?_
  · refine ⟨?_, ?_, ?_, ?_, ?_, ?_, ?_, by omega⟩ <;> simp -implicitDefEqProofs only [go_sem, ↓reduceIte, Nat.reduceEqDiff, Nat.reduceAdd, Nat.reduceSub, Nat.reduceMul, Nat.reduceLeDiff, Nat.reduceLT, Nat.reduceBEq, Nat.reduceBNe, reduceCtorEq, beq_self_eq_true, Int.toNat_natCast, List.length_map, List.length_nil, Int.reduceToNat, Int.reduceAdd, Int.reduceSub, Int.reduceMul, Int.reduceLT, Int.reduceLE, Int.reduceEq, Int.reduceBEq, Int.reduceNeg, decide_true, decide_false, Nat.le_max_left, Nat.le_max_right, ne_eq, not_true_eq_false, not_false_eq_true, Int.natCast_zero, gt_iff_lt, ge_iff_le, Int.reduceGT, Int.reduceGE, Bool.false_and, Bool.and_false, Bool.true_and, Bool.and_true, eQ, need]
  rintro e ⟨E, H⟩ ⟨rfl, e7⟩
  simp only at e7
  simp -implicitDefEqProofs only [go_sem, ↓reduceIte, Nat.reduceEqDiff, Nat.reduceAdd, Nat.reduceSub, Nat.reduceMul, Nat.reduceLeDiff, Nat.reduceLT, Nat.reduceBEq, Nat.reduceBNe, reduceCtorEq, beq_self_eq_true, Int.toNat_natCast, List.length_map, List.length_nil, Int.reduceToNat, Int.reduceAdd, Int.reduceSub, Int.reduceMul, Int.reduceLT, Int.reduceLE, Int.reduceEq, Int.reduceBEq, Int.reduceNeg, decide_true, decide_false, Nat.le_max_left, Nat.le_max_right, ne_eq, not_true_eq_false, not_false_eq_true, Int.natCast_zero, gt_iff_lt, ge_iff_le, Int.reduceGT, Int.reduceGE, Bool.false_and, Bool.and_false, Bool.true_and, Bool.and_true, e7]
def roomB (p : Prob) (s : Int) (i : Nat) : Bool := bit p.cells (i : Nat) && has s (regOf p.conf (i : Nat))
def room (p : Prob) (bk : List Int) (s : Int) : Nat → Int
  | 0 => 0
  | k + 1 => if roomB p s k = true then room p bk s k + (capOf p.conf (k : Nat) - bk.getD k 0) else room p bk s k
theorem cap_bd {c : Conf} (hc : ConfOk c) {i : Nat} (hi : i < c.cells.length) : 10 ≤ capOf c (i : Nat) ∧ capOf c (i : Nat) ≤ 40 := by
  have h3 := getD_at (l := c.cells) (i := i) (d := ⟨0, 0⟩) hi
  have h4 := hc.cs _ (List.mem_of_getElem? h3)
  unfold capOf
  simp only [Int.toNat_natCast]
  omega
def BkOk (p : Prob) (bk : List Int) : Prop := bk.length = p.conf.cells.length ∧ ∀ j : Nat, 0 ≤ bk.getD j 0 ∧ bk.getD j 0 ≤ 120
theorem booked_ok {p : Prob} (hc : ConfOk p.conf) (ps : List Plc) {k : Nat} (hk : k ≤ p.conf.tens.length) : BkOk p (booked p.conf ps k) := ⟨booked_len _ _ _, fun j => by
  have := booked_bd hc ps k hk j
  have := hc.t1
  omega⟩
theorem room_bd {p : Prob} (hc : ConfOk p.conf) {bk : List Int} (hb : BkOk p bk) (s : Int) : ∀ k : Nat, k ≤ p.conf.cells.length → -120 * (k : Int) ≤ room p bk s k ∧ room p bk s k ≤ 40 * k
  | 0, _ => by simp [room]
  | k + 1, hk => by
    have h := room_bd hc hb s k (by omega)
    have h1 := cap_bd hc (i := k) (by omega)
    have h2 := hb.2 k
    simp only [room]
    split <;> omega
def L21 (p : Prob) (bk : List Int) (s : Int) (k : Nat) (w : VSt) : Prop := gt .bad w.E 3 = .mp 3 1 0 0 ∧ hg w.H 3 = ⟨1, 0, true, [eQ p]⟩ ∧ gt .bad w.E 2 = dI s ∧ gt .bad w.E 7 = dL bk ∧ gt .bad w.E 8 = dI (room p bk s k) ∧
  gt .bad w.E 17 = .sl (p.conf.cells.map eC) ∧ gt .bad w.E 18 = dI (p.conf.cells.length : Nat) ∧ gt .bad w.E 19 = dI (k : Nat) ∧ k ≤ p.conf.cells.length
theorem room_l0 (p : Prob) (hc : ConfOk p.conf) (bk : List Int) (hbk : BkOk p bk) (s : Int) : ∀ k w, L21 p bk s k w → Ok (R PP shF 0 57 (.loop ir21_l0) w) (fun e w => e = .exit 0 ∧ gt .bad w.E 8 = dI (room p bk s p.conf.cells.length)) := by
  refine Ok_up p.conf.cells.length (L21 p bk s) fun k w hI => ?_
  obtain ⟨E, H⟩ := w
  obtain ⟨e3, h3, e2, e7, e8, e17, e18, e19, hk⟩ := hI
  simp only at e3 h3 e2 e7 e8 e17 e18 e19
  have hn7 := hc.c1
  have w1 : IntKind.wrap .i64 ((k : Int) + 1) = ((k + 1 : Nat) : Int) := by rw [w64 (by omega) (by omega)]; rfl
  by_cases hlt : k < p.conf.cells.length
  · have d1 : decide ((k : Int) < (p.conf.cells.length : Int)) = true := by simp; omega
    have q1 : (k : Int) < (p.conf.cells.length : Int) := by omega
    have q0 : (0 : Int) ≤ (k : Int) := by omega
    have g1 := getD_at (l := p.conf.cells) (i := k) (d := ⟨0, 0⟩) (by omega)
    have ht1 : (p.conf.cells.getD k ⟨0, 0⟩).cap = capOf p.conf (k : Nat) := rfl
    have g2 := getD_at (l := bk) (i := k) (d := 0) (by rw [hbk.1]; omega)
    have bl := hbk.1
    have B1 := FV_RegionOf p.conf hc.lens k
    have B2 := FV_usable p k (by omega) (by omega)
    have hr := hc.regOf (i := (k : Int)) (by omega) (by omega)
    have hr1 := hc.r1
    have nr : ¬ regOf p.conf (k : Nat) < 0 := by omega
    have r4 : regOf p.conf (k : Nat) < 4 := by omega
    have sd := shr_div s (regOf p.conf (k : Nat)) hr.1 (by omega)
    have hh : has s (regOf p.conf (k : Nat)) = ((s / 2 ^ (regOf p.conf (k : Nat)).toNat) % 2 == 1) := by
      unfold has bit
      rw [show (decide (0 ≤ regOf p.conf (k : Nat)) && decide (regOf p.conf (k : Nat) < 62)) = true by simp; omega]
      rfl
    cases hb : bit p.cells (k : Nat) with
    | true =>
      rw [hb] at B2
      cases hm : has s (regOf p.conf (k : Nat)) with
      | true =>
        have hu : room p bk s (k + 1) = room p bk s k + (capOf p.conf (k : Nat) - bk.getD k 0) := by simp only [room, roomB, hb, hm]; rfl
        have b1 := room_bd hc hbk s (k + 1) (by omega)
        have b2 := cap_bd hc (i := k) hlt
        have b3 := hbk.2 k
        have w2 : IntKind.wrap .i64 (capOf p.conf (k : Nat) - bk.getD k 0) = capOf p.conf (k : Nat) - bk.getD k 0 := w64 (by omega) (by omega)
        have w3 : IntKind.wrap .i64 (room p bk s k + (capOf p.conf (k : Nat) - bk.getD k 0)) = room p bk s (k + 1) := by rw [← hu]; exact w64 (by omega) (by omega)
        rw [hm] at hh
        simp -implicitDefEqProofs only [go_sem, ↓reduceIte, Nat.reduceEqDiff, Nat.reduceAdd, Nat.reduceSub, Nat.reduceMul, Nat.reduceLeDiff, Nat.reduceLT, Nat.reduceBEq, Nat.reduceBNe, reduceCtorEq, beq_self_eq_true, Int.toNat_natCast, List.length_map, List.length_nil, Int.reduceToNat, Int.reduceAdd, Int.reduceSub, Int.reduceMul, Int.reduceLT, Int.reduceLE, Int.reduceEq, Int.reduceBEq, Int.reduceNeg, decide_true, decide_false, Nat.le_max_left, Nat.le_max_right, ne_eq, not_true_eq_false, not_false_eq_true, Int.natCast_zero, gt_iff_lt, ge_iff_le, Int.reduceGT, Int.reduceGE, Bool.false_and, Bool.and_false, Bool.true_and, Bool.and_true, ir21_l0, eQ, eK, e3, h3, e2, e7, e8, e17, e18, e19, d1, w1, q0, q1, g1, g2, bl, vpS B1 rfl, vpS B2 rfl, hr.1, nr, r4, sd, and1, ← hh, ht1, w2, w3]
        refine .next hlt ⟨?_, ?_, ?_, ?_, ?_, ?_, ?_, ?_, by omega⟩ <;> simp -implicitDefEqProofs only [go_sem, ↓reduceIte, Nat.reduceEqDiff, Nat.reduceAdd, Nat.reduceSub, Nat.reduceMul, Nat.reduceLeDiff, Nat.reduceLT, Nat.reduceBEq, Nat.reduceBNe, reduceCtorEq, beq_self_eq_true, Int.toNat_natCast, List.length_map, List.length_nil, Int.reduceToNat, Int.reduceAdd, Int.reduceSub, Int.reduceMul, Int.reduceLT, Int.reduceLE, Int.reduceEq, Int.reduceBEq, Int.reduceNeg, decide_true, decide_false, Nat.le_max_left, Nat.le_max_right, ne_eq, not_true_eq_false, not_false_eq_true, Int.natCast_zero, gt_iff_lt, ge_iff_le, Int.reduceGT, Int.reduceGE, Bool.false_and, Bool.and_false, Bool.true_and, Bool.and_true, e3, h3, e2, e7, e17, e18, w1, eQ]
      | false =>
        have hu : room p bk s (k + 1) = room p bk s k := by simp only [room, roomB, hb, hm]; rfl
        rw [hm] at hh
        simp -implicitDefEqProofs only [go_sem, ↓reduceIte, Nat.reduceEqDiff, Nat.reduceAdd, Nat.reduceSub, Nat.reduceMul, Nat.reduceLeDiff, Nat.reduceLT, Nat.reduceBEq, Nat.reduceBNe, reduceCtorEq, beq_self_eq_true, Int.toNat_natCast, List.length_map, List.length_nil, Int.reduceToNat, Int.reduceAdd, Int.reduceSub, Int.reduceMul, Int.reduceLT, Int.reduceLE, Int.reduceEq, Int.reduceBEq, Int.reduceNeg, decide_true, decide_false, Nat.le_max_left, Nat.le_max_right, ne_eq, not_true_eq_false, not_false_eq_true, Int.natCast_zero, gt_iff_lt, ge_iff_le, Int.reduceGT, Int.reduceGE, Bool.false_and, Bool.and_false, Bool.true_and, Bool.and_true, ir21_l0, eQ, eK, e3, h3, e2, e7, e8, e17, e18, e19, d1, w1, q0, q1, g1, g2, bl, vpS B1 rfl, vpS B2 rfl, hr.1, nr, r4, sd, and1, ← hh, ht1]
        refine .next hlt ⟨?_, ?_, ?_, ?_, ?_, ?_, ?_, ?_, by omega⟩ <;> simp -implicitDefEqProofs only [go_sem, ↓reduceIte, Nat.reduceEqDiff, Nat.reduceAdd, Nat.reduceSub, Nat.reduceMul, Nat.reduceLeDiff, Nat.reduceLT, Nat.reduceBEq, Nat.reduceBNe, reduceCtorEq, beq_self_eq_true, Int.toNat_natCast, List.length_map, List.length_nil, Int.reduceToNat, Int.reduceAdd, Int.reduceSub, Int.reduceMul, Int.reduceLT, Int.reduceLE, Int.reduceEq, Int.reduceBEq, Int.reduceNeg, decide_true, decide_false, Nat.le_max_left, Nat.le_max_right, ne_eq, not_true_eq_false, not_false_eq_true, Int.natCast_zero, gt_iff_lt, ge_iff_le, Int.reduceGT, Int.reduceGE, Bool.false_and, Bool.and_false, Bool.true_and, Bool.and_true, e3, h3, e2, e7, e8, e17, e18, w1, eQ, hu]
    | false =>
      rw [hb] at B2
      have hu : room p bk s (k + 1) = room p bk s k := by simp only [room, roomB, hb]; rfl
      simp -implicitDefEqProofs only [go_sem, ↓reduceIte, Nat.reduceEqDiff, Nat.reduceAdd, Nat.reduceSub, Nat.reduceMul, Nat.reduceLeDiff, Nat.reduceLT, Nat.reduceBEq, Nat.reduceBNe, reduceCtorEq, beq_self_eq_true, Int.toNat_natCast, List.length_map, List.length_nil, Int.reduceToNat, Int.reduceAdd, Int.reduceSub, Int.reduceMul, Int.reduceLT, Int.reduceLE, Int.reduceEq, Int.reduceBEq, Int.reduceNeg, decide_true, decide_false, Nat.le_max_left, Nat.le_max_right, ne_eq, not_true_eq_false, not_false_eq_true, Int.natCast_zero, gt_iff_lt, ge_iff_le, Int.reduceGT, Int.reduceGE, Bool.false_and, Bool.and_false, Bool.true_and, Bool.and_true, ir21_l0, eQ, eK, e3, h3, e2, e7, e8, e17, e18, e19, d1, w1, q0, q1, g1, g2, bl, vpS B1 rfl, vpS B2 rfl, hr.1, nr, r4, sd, and1, ht1]
      refine .next hlt ⟨?_, ?_, ?_, ?_, ?_, ?_, ?_, ?_, by omega⟩ <;> simp -implicitDefEqProofs only [go_sem, ↓reduceIte, Nat.reduceEqDiff, Nat.reduceAdd, Nat.reduceSub, Nat.reduceMul, Nat.reduceLeDiff, Nat.reduceLT, Nat.reduceBEq, Nat.reduceBNe, reduceCtorEq, beq_self_eq_true, Int.toNat_natCast, List.length_map, List.length_nil, Int.reduceToNat, Int.reduceAdd, Int.reduceSub, Int.reduceMul, Int.reduceLT, Int.reduceLE, Int.reduceEq, Int.reduceBEq, Int.reduceNeg, decide_true, decide_false, Nat.le_max_left, Nat.le_max_right, ne_eq, not_true_eq_false, not_false_eq_true, Int.natCast_zero, gt_iff_lt, ge_iff_le, Int.reduceGT, Int.reduceGE, Bool.false_and, Bool.and_false, Bool.true_and, Bool.and_true, e3, h3, e2, e7, e8, e17, e18, w1, eQ, hu]
  · have : k = p.conf.cells.length := by omega
    subst this
    have d1 : decide ((p.conf.cells.length : Int) < (p.conf.cells.length : Int)) = false := by simp
    simp -implicitDefEqProofs only [go_sem, ↓reduceIte, Nat.reduceEqDiff, Nat.reduceAdd, Nat.reduceSub, Nat.reduceMul, Nat.reduceLeDiff, Nat.reduceLT, Nat.reduceBEq, Nat.reduceBNe, reduceCtorEq, beq_self_eq_true, Int.toNat_natCast, List.length_map, List.length_nil, Int.reduceToNat, Int.reduceAdd, Int.reduceSub, Int.reduceMul, Int.reduceLT, Int.reduceLE, Int.reduceEq, Int.reduceBEq, Int.reduceNeg, decide_true, decide_false, Nat.le_max_left, Nat.le_max_right, ne_eq, not_true_eq_false, not_false_eq_true, Int.natCast_zero, gt_iff_lt, ge_iff_le, Int.reduceGT, Int.reduceGE, Bool.false_and, Bool.and_false, Bool.true_and, Bool.and_true, ir21_l0, e18, e19, d1]
    exact .exit ⟨rfl, by simp -implicitDefEqProofs only [go_sem, ↓reduceIte, Nat.reduceEqDiff, Nat.reduceAdd, Nat.reduceSub, Nat.reduceMul, Nat.reduceLeDiff, Nat.reduceLT, Nat.reduceBEq, Nat.reduceBNe, reduceCtorEq, beq_self_eq_true, Int.toNat_natCast, List.length_map, List.length_nil, Int.reduceToNat, Int.reduceAdd, Int.reduceSub, Int.reduceMul, Int.reduceLT, Int.reduceLE, Int.reduceEq, Int.reduceBEq, Int.reduceNeg, decide_true, decide_false, Nat.le_max_left, Nat.le_max_right, ne_eq, not_true_eq_false, not_false_eq_true, Int.natCast_zero, gt_iff_lt, ge_iff_le, Int.reduceGT, Int.reduceGE, Bool.false_and, Bool.and_false, Bool.true_and, Bool.and_true, e8]⟩
theorem FV_Room (p : Prob) (hc : ConfOk p.conf) (ps : List Plc) (hp : ps.length = p.conf.tens.length) (s : Int) : FV PP shF 21 [.agg (eQ p), .sl (ps.map eP), dI s] = some (dI (room p (booked p.conf ps ps.length) s p.conf.cells.length)) := by
  have ht := hc.t1
  have B := FVF_Booked p hc ps (by omega)
  rw [show min ps.length p.conf.tens.length = ps.length by omega] at B
  refine FV_ok (F_ok PP21 rfl ⟨by simp [ir21], by simp⟩ ?_)
  simp -implicitDefEqProofs only [go_sem, ↓reduceIte, Nat.reduceEqDiff, Nat.reduceAdd, Nat.reduceSub, Nat.reduceMul, Nat.reduceLeDiff, Nat.reduceLT, Nat.reduceBEq, Nat.reduceBNe, reduceCtorEq, beq_self_eq_true, Int.toNat_natCast, List.length_map, List.length_nil, Int.reduceToNat, Int.reduceAdd, Int.reduceSub, Int.reduceMul, Int.reduceLT, Int.reduceLE, Int.reduceEq, Int.reduceBEq, Int.reduceNeg, decide_true, decide_false, Nat.le_max_left, Nat.le_max_right, ne_eq, not_true_eq_false, not_false_eq_true, Int.natCast_zero, gt_iff_lt, ge_iff_le, Int.reduceGT, Int.reduceGE, Bool.false_and, Bool.and_false, Bool.true_and, Bool.and_true, ir21, vpF B rfl]
  refine (room_l0 p hc _ (booked_ok hc ps (k := ps.length) (by omega)) s 0 _ ?_).mono ?_
  · refine ⟨?_, ?_, ?_, ?_, ?_, ?_, ?_, ?_, by omega⟩ <;> simp -implicitDefEqProofs only [go_sem, ↓reduceIte, Nat.reduceEqDiff, Nat.reduceAdd, Nat.reduceSub, Nat.reduceMul, Nat.reduceLeDiff, Nat.reduceLT, Nat.reduceBEq, Nat.reduceBNe, reduceCtorEq, beq_self_eq_true, Int.toNat_natCast, List.length_map, List.length_nil, Int.reduceToNat, Int.reduceAdd, Int.reduceSub, Int.reduceMul, Int.reduceLT, Int.reduceLE, Int.reduceEq, Int.reduceBEq, Int.reduceNeg, decide_true, decide_false, Nat.le_max_left, Nat.le_max_right, ne_eq, not_true_eq_false, not_false_eq_true, Int.natCast_zero, gt_iff_lt, ge_iff_le, Int.reduceGT, Int.reduceGE, Bool.false_and, Bool.and_false, Bool.true_and, Bool.and_true, eQ, room]
  rintro e ⟨E, H⟩ ⟨rfl, e8⟩
  simp only at e8
  simp -implicitDefEqProofs only [go_sem, ↓reduceIte, Nat.reduceEqDiff, Nat.reduceAdd, Nat.reduceSub, Nat.reduceMul, Nat.reduceLeDiff, Nat.reduceLT, Nat.reduceBEq, Nat.reduceBNe, reduceCtorEq, beq_self_eq_true, Int.toNat_natCast, List.length_map, List.length_nil, Int.reduceToNat, Int.reduceAdd, Int.reduceSub, Int.reduceMul, Int.reduceLT, Int.reduceLE, Int.reduceEq, Int.reduceBEq, Int.reduceNeg, decide_true, decide_false, Nat.le_max_left, Nat.le_max_right, ne_eq, not_true_eq_false, not_false_eq_true, Int.natCast_zero, gt_iff_lt, ge_iff_le, Int.reduceGT, Int.reduceGE, Bool.false_and, Bool.and_false, Bool.true_and, Bool.and_true, e8]
theorem FV_run (k : Nat) {g : Nat} (h : (vmach PP shF k g [] [] 0).map (·.1) = some (dB true)) : FV PP shF g [] = some (dB true) := by
  simp only [Option.map_eq_some_iff] at h
  obtain ⟨⟨d, H⟩, h1, h2⟩ := h
  simp only at h2; subst h2
  exact FV_B (F_of k h1)
theorem FV_awake18 : FV PP shF 12 [] = some (dB true) := FV_run 60 (by kernel_rfl)
theorem shl_all {R : Int} (h : 1 ≤ R ∧ R ≤ 3) : IntKind.wrap .i64 (IntKind.wrap .i64 (1 * 2 ^ min R.toNat 64) - 1) = allR R := by
  obtain rfl | rfl | rfl : R = 1 ∨ R = 2 ∨ R = 3 := by omega
  · rfl
  · rfl
  · rfl
theorem has_all8 : ∀ R : Fin 4, ∀ r : Fin 3, ((r.val : Nat) : Int) < ((R.val : Nat) : Int) → has (allR ((R.val : Nat) : Int)) ((r.val : Nat) : Int) = true := by decide +kernel
theorem has_all {R r : Int} (hR : 0 ≤ R ∧ R ≤ 3) (hr : 0 ≤ r ∧ r < R) : has (allR R) r = true := by
  obtain ⟨x, rfl⟩ := fin8 (n := 4) hR.1 (by omega)
  obtain ⟨z, rfl⟩ := fin8 (n := 3) hr.1 (by omega)
  exact has_all8 x z hr.2
theorem sub_all8 : ∀ a : Fin 8, ∀ R : Fin 4, ((a.val : Nat) : Int) ≤ allR ((R.val : Nat) : Int) → (andNotI .i64 ((a.val : Nat) : Int) (allR ((R.val : Nat) : Int)) == 0) = true := by decide +kernel
theorem sub_all {a R : Int} (hR : 0 ≤ R ∧ R ≤ 3) (ha : 0 ≤ a ∧ a ≤ allR R) : (andNotI .i64 a (allR R) == 0) = true := by
  have := allR_lt hR
  obtain ⟨x, rfl⟩ := fin8 (n := 8) ha.1 (by omega)
  obtain ⟨y, rfl⟩ := fin8 (n := 4) hR.1 (by omega)
  exact sub_all8 x y ha.2
def openN (p : Prob) (ps : List Plc) : Nat → Int
  | 0 => 0
  | k + 1 => if (plc ps k).home < 0 then openN p ps k + (ten p.conf (k : Nat)).load else openN p ps k
theorem openN_bd {p : Prob} (hc : ConfOk p.conf) (ps : List Plc) : ∀ k : Nat, k ≤ p.conf.tens.length → 0 ≤ openN p ps k ∧ openN p ps k ≤ 12 * k
  | 0, _ => by simp [openN]
  | k + 1, hk => by
    have h := openN_bd hc ps k (by omega)
    have ht := ten_ok hc (k := k) (by omega)
    have := ht.l0
    have := ht.l1
    simp only [openN]
    split <;> omega
theorem need_all {p : Prob} (hc : ConfOk p.conf) (ps : List Plc) (hps : ∀ x, x ∈ ps → PlcOk p.conf x) : ∀ k : Nat, k ≤ ps.length → k ≤ p.conf.tens.length → need p ps (allR p.conf.regions) k = openN p ps k
  | 0, _, _ => rfl
  | k + 1, h1, h2 => by
    have h := need_all hc ps hps k (by omega) (by omega)
    have g1 : ps[k]? = some (plc ps k) := getD_at (l := ps) (i := k) (d := ⟨0, 0⟩) (by omega)
    have hpl := (hps _ (List.mem_of_getElem? g1)).h0
    have hr0 := hc.r0
    have hs := sub_all ⟨by omega, hc.r1⟩ (reach_bd hc (k : Nat) p.conf.cells.length (Nat.le_refl _))
    simp only [need, openN, needB, hs, h, Bool.and_true, beq_iff_eq]
    by_cases hh : (plc ps k).home < 0
    · rw [if_pos hh, if_pos (by omega)]
    · rw [if_neg hh, if_neg (by omega)]
def roomAll (p : Prob) (bk : List Int) : Nat → Int
  | 0 => 0
  | k + 1 => if bit p.cells (k : Nat) = true then roomAll p bk k + (capOf p.conf (k : Nat) - bk.getD k 0) else roomAll p bk k
theorem room_all {p : Prob} (hc : ConfOk p.conf) (bk : List Int) : ∀ k : Nat, k ≤ p.conf.cells.length → room p bk (allR p.conf.regions) k = roomAll p bk k
  | 0, _ => rfl
  | k + 1, hk => by
    have h := room_all hc bk k (by omega)
    have hr0 := hc.r0
    have hs := has_all ⟨by omega, hc.r1⟩ (hc.regOf (i := (k : Int)) (by omega) (by omega))
    simp only [room, roomAll, roomB, hs, h, Bool.and_true]
theorem room_none (p : Prob) (bk : List Int) : ∀ k : Nat, room p bk 0 k = 0
  | 0 => rfl
  | k + 1 => by
    have h := room_none p bk k
    have h0 : has 0 (regOf p.conf (k : Nat)) = false := by simp [has, bit]
    simp only [room, roomB, h0, h, Bool.and_false, Bool.false_eq_true, ↓reduceIte]
def K4 (p : Prob) (ps : List Plc) (w : VSt) : Prop := gt .bad w.E 7 = .mp 7 1 0 0 ∧ hg w.H 7 = ⟨1, 0, true, [eQ p]⟩ ∧ gt .bad w.E 8 = .sl (ps.map eP) ∧ gt .bad w.E 9 = dI (allR p.conf.regions)
def L4a (p : Prob) (ps : List Plc) (k : Nat) (w : VSt) : Prop := K4 p ps w ∧ gt .bad w.E 10 = dI (openN p ps k) ∧ gt .bad w.E 11 = dI 0 ∧ gt .bad w.E 12 = dI (k : Nat) ∧ k ≤ ps.length
theorem all_l0 (p : Prob) (hc : ConfOk p.conf) (ps : List Plc) (hp : ps.length = p.conf.tens.length) : ∀ k w, L4a p ps k w → Ok (R PP shF 0 128 (.loop ir4_l0) w) (fun e w => e = .exit 0 ∧ K4 p ps w ∧ gt .bad w.E 10 = dI (openN p ps ps.length) ∧ gt .bad w.E 11 = dI 0) := by
  refine Ok_up ps.length (L4a p ps) fun k w hI => ?_
  obtain ⟨E, H⟩ := w
  obtain ⟨⟨e7, h7, e8, e9⟩, e10, e11, e12, hk⟩ := hI
  simp only at e7 h7 e8 e9 e10 e11 e12
  have ht5 := hc.t1
  have w1 : IntKind.wrap .i64 ((k : Int) + 1) = ((k + 1 : Nat) : Int) := by rw [w64 (by omega) (by omega)]; rfl
  by_cases hlt : k < ps.length
  · have d1 : decide ((k : Int) < (ps.length : Int)) = true := by simp; omega
    have q1 : (k : Int) < (ps.length : Int) := by omega
    have q0 : (0 : Int) ≤ (k : Int) := by omega
    have q2 : (k : Int) < (p.conf.tens.length : Int) := by omega
    have g1 : ps[k]? = some (plc ps k) := getD_at (l := ps) (i := k) (d := ⟨0, 0⟩) (by omega)
    have g2 := getD_at (l := p.conf.tens) (i := k) (d := ⟨0, 0, 0, 0, 0, 0, false⟩) (by omega)
    have ht1 : (p.conf.tens.getD k ⟨0, 0, 0, 0, 0, 0, false⟩).load = (ten p.conf k).load := rfl
    by_cases hh : (plc ps k).home < 0
    · have hu : openN p ps (k + 1) = openN p ps k + (ten p.conf (k : Nat)).load := by simp only [openN, if_pos hh]
      have bd := openN_bd hc ps (k + 1) (by omega)
      have w2 : IntKind.wrap .i64 (openN p ps k + (ten p.conf (k : Nat)).load) = openN p ps (k + 1) := by rw [← hu]; exact w64 (by omega) (by omega)
      have d2 : decide ((plc ps k).home < 0) = true := by simpa using hh
      simp -implicitDefEqProofs only [go_sem, ↓reduceIte, Nat.reduceEqDiff, Nat.reduceAdd, Nat.reduceSub, Nat.reduceMul, Nat.reduceLeDiff, Nat.reduceLT, Nat.reduceBEq, Nat.reduceBNe, reduceCtorEq, beq_self_eq_true, Int.toNat_natCast, List.length_map, List.length_nil, Int.reduceToNat, Int.reduceAdd, Int.reduceSub, Int.reduceMul, Int.reduceLT, Int.reduceLE, Int.reduceEq, Int.reduceBEq, Int.reduceNeg, decide_true, decide_false, Nat.le_max_left, Nat.le_max_right, ne_eq, not_true_eq_false, not_false_eq_true, Int.natCast_zero, gt_iff_lt, ge_iff_le, Int.reduceGT, Int.reduceGE, Bool.false_and, Bool.and_false, Bool.true_and, Bool.and_true, ir4_l0, eQ, eK, e7, h7, e8, e10, e12, d1, w1, q0, q1, q2, g1, g2, ht1, d2, w2]
      refine .next hlt ⟨⟨?_, ?_, ?_, ?_⟩, ?_, ?_, ?_, by omega⟩ <;> simp -implicitDefEqProofs only [go_sem, ↓reduceIte, Nat.reduceEqDiff, Nat.reduceAdd, Nat.reduceSub, Nat.reduceMul, Nat.reduceLeDiff, Nat.reduceLT, Nat.reduceBEq, Nat.reduceBNe, reduceCtorEq, beq_self_eq_true, Int.toNat_natCast, List.length_map, List.length_nil, Int.reduceToNat, Int.reduceAdd, Int.reduceSub, Int.reduceMul, Int.reduceLT, Int.reduceLE, Int.reduceEq, Int.reduceBEq, Int.reduceNeg, decide_true, decide_false, Nat.le_max_left, Nat.le_max_right, ne_eq, not_true_eq_false, not_false_eq_true, Int.natCast_zero, gt_iff_lt, ge_iff_le, Int.reduceGT, Int.reduceGE, Bool.false_and, Bool.and_false, Bool.true_and, Bool.and_true, e7, h7, e8, e9, e11, w1, eQ]
    · have hu : openN p ps (k + 1) = openN p ps k := by simp only [openN, if_neg hh]
      have d2 : decide ((plc ps k).home < 0) = false := by simpa using hh
      simp -implicitDefEqProofs only [go_sem, ↓reduceIte, Nat.reduceEqDiff, Nat.reduceAdd, Nat.reduceSub, Nat.reduceMul, Nat.reduceLeDiff, Nat.reduceLT, Nat.reduceBEq, Nat.reduceBNe, reduceCtorEq, beq_self_eq_true, Int.toNat_natCast, List.length_map, List.length_nil, Int.reduceToNat, Int.reduceAdd, Int.reduceSub, Int.reduceMul, Int.reduceLT, Int.reduceLE, Int.reduceEq, Int.reduceBEq, Int.reduceNeg, decide_true, decide_false, Nat.le_max_left, Nat.le_max_right, ne_eq, not_true_eq_false, not_false_eq_true, Int.natCast_zero, gt_iff_lt, ge_iff_le, Int.reduceGT, Int.reduceGE, Bool.false_and, Bool.and_false, Bool.true_and, Bool.and_true, ir4_l0, eQ, eK, e7, h7, e8, e10, e12, d1, w1, q0, q1, q2, g1, g2, ht1, d2]
      refine .next hlt ⟨⟨?_, ?_, ?_, ?_⟩, ?_, ?_, ?_, by omega⟩ <;> simp -implicitDefEqProofs only [go_sem, ↓reduceIte, Nat.reduceEqDiff, Nat.reduceAdd, Nat.reduceSub, Nat.reduceMul, Nat.reduceLeDiff, Nat.reduceLT, Nat.reduceBEq, Nat.reduceBNe, reduceCtorEq, beq_self_eq_true, Int.toNat_natCast, List.length_map, List.length_nil, Int.reduceToNat, Int.reduceAdd, Int.reduceSub, Int.reduceMul, Int.reduceLT, Int.reduceLE, Int.reduceEq, Int.reduceBEq, Int.reduceNeg, decide_true, decide_false, Nat.le_max_left, Nat.le_max_right, ne_eq, not_true_eq_false, not_false_eq_true, Int.natCast_zero, gt_iff_lt, ge_iff_le, Int.reduceGT, Int.reduceGE, Bool.false_and, Bool.and_false, Bool.true_and, Bool.and_true, e7, h7, e8, e9, e10, e11, w1, eQ, hu]
  · have : k = ps.length := by omega
    subst this
    have d1 : decide ((ps.length : Int) < (ps.length : Int)) = false := by simp
    simp -implicitDefEqProofs only [go_sem, ↓reduceIte, Nat.reduceEqDiff, Nat.reduceAdd, Nat.reduceSub, Nat.reduceMul, Nat.reduceLeDiff, Nat.reduceLT, Nat.reduceBEq, Nat.reduceBNe, reduceCtorEq, beq_self_eq_true, Int.toNat_natCast, List.length_map, List.length_nil, Int.reduceToNat, Int.reduceAdd, Int.reduceSub, Int.reduceMul, Int.reduceLT, Int.reduceLE, Int.reduceEq, Int.reduceBEq, Int.reduceNeg, decide_true, decide_false, Nat.le_max_left, Nat.le_max_right, ne_eq, not_true_eq_false, not_false_eq_true, Int.natCast_zero, gt_iff_lt, ge_iff_le, Int.reduceGT, Int.reduceGE, Bool.false_and, Bool.and_false, Bool.true_and, Bool.and_true, ir4_l0, e8, e12, d1]
    refine .exit ⟨rfl, ⟨?_, ?_, ?_, ?_⟩, ?_, ?_⟩ <;> simp -implicitDefEqProofs only [go_sem, ↓reduceIte, Nat.reduceEqDiff, Nat.reduceAdd, Nat.reduceSub, Nat.reduceMul, Nat.reduceLeDiff, Nat.reduceLT, Nat.reduceBEq, Nat.reduceBNe, reduceCtorEq, beq_self_eq_true, Int.toNat_natCast, List.length_map, List.length_nil, Int.reduceToNat, Int.reduceAdd, Int.reduceSub, Int.reduceMul, Int.reduceLT, Int.reduceLE, Int.reduceEq, Int.reduceBEq, Int.reduceNeg, decide_true, decide_false, Nat.le_max_left, Nat.le_max_right, ne_eq, not_true_eq_false, not_false_eq_true, Int.natCast_zero, gt_iff_lt, ge_iff_le, Int.reduceGT, Int.reduceGE, Bool.false_and, Bool.and_false, Bool.true_and, Bool.and_true, e7, h7, e8, e9, e10, e11, eQ]
def L4b (p : Prob) (ps : List Plc) (bk : List Int) (k : Nat) (w : VSt) : Prop := K4 p ps w ∧ gt .bad w.E 10 = dI (openN p ps ps.length) ∧ gt .bad w.E 11 = dI (roomAll p bk k) ∧ gt .bad w.E 13 = dL bk ∧ gt .bad w.E 14 = dI (k : Nat) ∧ k ≤ p.conf.cells.length
theorem all_l1 (p : Prob) (hc : ConfOk p.conf) (ps : List Plc) (bk : List Int) (hbk : BkOk p bk) : ∀ k w, L4b p ps bk k w → Ok (R PP shF 0 128 (.loop ir4_l1) w) (fun e w => e = .exit 2 ∧ L4b p ps bk p.conf.cells.length w) := by
  refine Ok_up p.conf.cells.length (L4b p ps bk) fun k w hI => ?_
  obtain ⟨E, H⟩ := w
  obtain ⟨⟨e7, h7, e8, e9⟩, e10, e11, e13, e14, hk⟩ := hI
  simp only at e7 h7 e8 e9 e10 e11 e13 e14
  have hn7 := hc.c1
  have bl := hbk.1
  have w1 : IntKind.wrap .i64 ((k : Int) + 1) = ((k + 1 : Nat) : Int) := by rw [w64 (by omega) (by omega)]; rfl
  by_cases hlt : k < p.conf.cells.length
  · have d1 : decide ((k : Int) < (p.conf.cells.length : Int)) = true := by simp; omega
    have q1 : (k : Int) < (p.conf.cells.length : Int) := by omega
    have q0 : (0 : Int) ≤ (k : Int) := by omega
    have g1 := getD_at (l := p.conf.cells) (i := k) (d := ⟨0, 0⟩) (by omega)
    have ht1 : (p.conf.cells.getD k ⟨0, 0⟩).cap = capOf p.conf (k : Nat) := rfl
    have g2 := getD_at (l := bk) (i := k) (d := 0) (by omega)
    have cu : IntKind.wrap .u64 (k : Int) = (k : Int) := wu64 (by omega) (by omega)
    have nr : ¬ (k : Int) < 0 := by omega
    have sd := shr_div p.cells (k : Nat) q0 (by omega)
    simp only [Int.toNat_natCast] at sd
    have hbt : decide ((p.cells / 2 ^ k) % 2 = 1) = bit p.cells (k : Nat) := by unfold bit; simp only [Int.toNat_natCast]
    have hx : (if bit p.cells (k : Nat) = true then roomAll p bk k + (capOf p.conf (k : Nat) - bk.getD k 0) else roomAll p bk k) = roomAll p bk (k + 1) := rfl
    have bdA := room_bd hc hbk (allR p.conf.regions) k (by omega)
    have bdB := room_bd hc hbk (allR p.conf.regions) (k + 1) (by omega)
    rw [room_all hc bk _ (by omega)] at bdA bdB
    have b2 := cap_bd hc (i := k) hlt
    have b3 := hbk.2 k
    cases hb : bit p.cells (k : Nat) with
    | true =>
      have hu : roomAll p bk (k + 1) = roomAll p bk k + (capOf p.conf (k : Nat) - bk.getD k 0) := by simp only [roomAll, hb, ↓reduceIte]
      have w2 : IntKind.wrap .i64 (roomAll p bk k + capOf p.conf (k : Nat)) = roomAll p bk k + capOf p.conf (k : Nat) := w64 (by omega) (by omega)
      have w3 : IntKind.wrap .i64 (roomAll p bk k + capOf p.conf (k : Nat) - bk.getD k 0) = roomAll p bk (k + 1) := by rw [w64 (by omega) (by omega)]; omega
      simp -implicitDefEqProofs only [go_sem, ↓reduceIte, Nat.reduceEqDiff, Nat.reduceAdd, Nat.reduceSub, Nat.reduceMul, Nat.reduceLeDiff, Nat.reduceLT, Nat.reduceBEq, Nat.reduceBNe, reduceCtorEq, beq_self_eq_true, Int.toNat_natCast, List.length_map, List.length_nil, Int.reduceToNat, Int.reduceAdd, Int.reduceSub, Int.reduceMul, Int.reduceLT, Int.reduceLE, Int.reduceEq, Int.reduceBEq, Int.reduceNeg, decide_true, decide_false, Nat.le_max_left, Nat.le_max_right, ne_eq, not_true_eq_false, not_false_eq_true, Int.natCast_zero, gt_iff_lt, ge_iff_le, Int.reduceGT, Int.reduceGE, Bool.false_and, Bool.and_false, Bool.true_and, Bool.and_true, ir4_l1, eQ, eK, e7, h7, e8, e11, e13, e14, bl, d1, w1, q0, q1, g1, g2, cu, nr, sd, tmod2, hbt, hb, ht1, w2, w3]
      refine .next hlt ⟨⟨?_, ?_, ?_, ?_⟩, ?_, ?_, ?_, ?_, by omega⟩ <;> simp -implicitDefEqProofs only [go_sem, ↓reduceIte, Nat.reduceEqDiff, Nat.reduceAdd, Nat.reduceSub, Nat.reduceMul, Nat.reduceLeDiff, Nat.reduceLT, Nat.reduceBEq, Nat.reduceBNe, reduceCtorEq, beq_self_eq_true, Int.toNat_natCast, List.length_map, List.length_nil, Int.reduceToNat, Int.reduceAdd, Int.reduceSub, Int.reduceMul, Int.reduceLT, Int.reduceLE, Int.reduceEq, Int.reduceBEq, Int.reduceNeg, decide_true, decide_false, Nat.le_max_left, Nat.le_max_right, ne_eq, not_true_eq_false, not_false_eq_true, Int.natCast_zero, gt_iff_lt, ge_iff_le, Int.reduceGT, Int.reduceGE, Bool.false_and, Bool.and_false, Bool.true_and, Bool.and_true, e7, h7, e8, e9, e10, e13, w1, eQ]
    | false =>
      have hu : roomAll p bk (k + 1) = roomAll p bk k := by simp only [roomAll, hb, Bool.false_eq_true, ↓reduceIte]
      simp -implicitDefEqProofs only [go_sem, ↓reduceIte, Nat.reduceEqDiff, Nat.reduceAdd, Nat.reduceSub, Nat.reduceMul, Nat.reduceLeDiff, Nat.reduceLT, Nat.reduceBEq, Nat.reduceBNe, reduceCtorEq, beq_self_eq_true, Int.toNat_natCast, List.length_map, List.length_nil, Int.reduceToNat, Int.reduceAdd, Int.reduceSub, Int.reduceMul, Int.reduceLT, Int.reduceLE, Int.reduceEq, Int.reduceBEq, Int.reduceNeg, decide_true, decide_false, Nat.le_max_left, Nat.le_max_right, ne_eq, not_true_eq_false, not_false_eq_true, Int.natCast_zero, gt_iff_lt, ge_iff_le, Int.reduceGT, Int.reduceGE, Bool.false_and, Bool.and_false, Bool.true_and, Bool.and_true, ir4_l1, eQ, eK, e7, h7, e8, e11, e13, e14, bl, d1, w1, q0, q1, g1, g2, cu, nr, sd, tmod2, hbt, hb, ht1]
      refine .next hlt ⟨⟨?_, ?_, ?_, ?_⟩, ?_, ?_, ?_, ?_, by omega⟩ <;> simp -implicitDefEqProofs only [go_sem, ↓reduceIte, Nat.reduceEqDiff, Nat.reduceAdd, Nat.reduceSub, Nat.reduceMul, Nat.reduceLeDiff, Nat.reduceLT, Nat.reduceBEq, Nat.reduceBNe, reduceCtorEq, beq_self_eq_true, Int.toNat_natCast, List.length_map, List.length_nil, Int.reduceToNat, Int.reduceAdd, Int.reduceSub, Int.reduceMul, Int.reduceLT, Int.reduceLE, Int.reduceEq, Int.reduceBEq, Int.reduceNeg, decide_true, decide_false, Nat.le_max_left, Nat.le_max_right, ne_eq, not_true_eq_false, not_false_eq_true, Int.natCast_zero, gt_iff_lt, ge_iff_le, Int.reduceGT, Int.reduceGE, Bool.false_and, Bool.and_false, Bool.true_and, Bool.and_true, e7, h7, e8, e9, e10, e11, e13, w1, eQ, hu]
  · have : k = p.conf.cells.length := by omega
    subst this
    have d1 : decide ((p.conf.cells.length : Int) < (p.conf.cells.length : Int)) = false := by simp
    simp -implicitDefEqProofs only [go_sem, ↓reduceIte, Nat.reduceEqDiff, Nat.reduceAdd, Nat.reduceSub, Nat.reduceMul, Nat.reduceLeDiff, Nat.reduceLT, Nat.reduceBEq, Nat.reduceBNe, reduceCtorEq, beq_self_eq_true, Int.toNat_natCast, List.length_map, List.length_nil, Int.reduceToNat, Int.reduceAdd, Int.reduceSub, Int.reduceMul, Int.reduceLT, Int.reduceLE, Int.reduceEq, Int.reduceBEq, Int.reduceNeg, decide_true, decide_false, Nat.le_max_left, Nat.le_max_right, ne_eq, not_true_eq_false, not_false_eq_true, Int.natCast_zero, gt_iff_lt, ge_iff_le, Int.reduceGT, Int.reduceGE, Bool.false_and, Bool.and_false, Bool.true_and, Bool.and_true, ir4_l1, e13, e14, bl, d1]
    refine .exit ⟨rfl, ⟨?_, ?_, ?_, ?_⟩, ?_, ?_, ?_, ?_, by omega⟩ <;> simp -implicitDefEqProofs only [go_sem, ↓reduceIte, Nat.reduceEqDiff, Nat.reduceAdd, Nat.reduceSub, Nat.reduceMul, Nat.reduceLeDiff, Nat.reduceLT, Nat.reduceBEq, Nat.reduceBNe, reduceCtorEq, beq_self_eq_true, Int.toNat_natCast, List.length_map, List.length_nil, Int.reduceToNat, Int.reduceAdd, Int.reduceSub, Int.reduceMul, Int.reduceLT, Int.reduceLE, Int.reduceEq, Int.reduceBEq, Int.reduceNeg, decide_true, decide_false, Nat.le_max_left, Nat.le_max_right, ne_eq, not_true_eq_false, not_false_eq_true, Int.natCast_zero, gt_iff_lt, ge_iff_le, Int.reduceGT, Int.reduceGE, Bool.false_and, Bool.and_false, Bool.true_and, Bool.and_true, e7, h7, e8, e9, e10, e11, e13, e14, eQ]
theorem law_BoundAll (l : List Int) (hl : I64s l) (m : List Int) (hm : I64s m) (cells : Int) (h1 : I64 cells) : OkF (F PP shF 4 [dL l, dL m, dI cells] [] 0) (fun d _ => d = dB true) := by
  refine F_ok PP4 rfl ⟨by simp [ir4], by simp⟩ ?_
  by_cases hlen : l.length ≤ 200
  · have L := FV_Light l
    rw [decide_eq_true hlen] at L
    by_cases hlen2 : m.length ≤ 200
    · have L2 := FV_Light m
      rw [decide_eq_true hlen2] at L2
      obtain ⟨p, hc, hcells, _, hP⟩ := FV_Problem l hl cells h1 false
      obtain ⟨ps, hps1, hps2, hQ⟩ := FVF_Places m hm p.conf hc
      have ht := hc.t1
      have hr0 := hc.r0
      have hr1 := hc.r1
      have B := FVF_Booked p hc ps (by omega)
      rw [show min ps.length p.conf.tens.length = ps.length by omega] at B
      have bl := booked_len p.conf ps ps.length
      have cu : IntKind.wrap .u64 p.conf.regions = p.conf.regions := wu64 (by omega) (by omega)
      have nr : ¬ p.conf.regions < 0 := by omega
      have wA := shl_all (R := p.conf.regions) ⟨by omega, by omega⟩
      have A1 := FV_Need p hc ps hps1 (allR p.conf.regions)
      rw [need_all hc ps hps2 ps.length (by omega) (by omega)] at A1
      have A2 := FV_Room p hc ps hps1 (allR p.conf.regions)
      rw [room_all hc _ _ (Nat.le_refl _)] at A2
      have A3 := FV_Room p hc ps hps1 0
      rw [room_none] at A3
      have n1 : ∀ x : Int, (x == x) = true := fun x => by simp
      simp -implicitDefEqProofs only [go_sem, ↓reduceIte, Nat.reduceEqDiff, Nat.reduceAdd, Nat.reduceSub, Nat.reduceMul, Nat.reduceLeDiff, Nat.reduceLT, Nat.reduceBEq, Nat.reduceBNe, reduceCtorEq, beq_self_eq_true, Int.toNat_natCast, List.length_map, List.length_nil, Int.reduceToNat, Int.reduceAdd, Int.reduceSub, Int.reduceMul, Int.reduceLT, Int.reduceLE, Int.reduceEq, Int.reduceBEq, Int.reduceNeg, decide_true, decide_false, Nat.le_max_left, Nat.le_max_right, ne_eq, not_true_eq_false, not_false_eq_true, Int.natCast_zero, gt_iff_lt, ge_iff_le, Int.reduceGT, Int.reduceGE, Bool.false_and, Bool.and_false, Bool.true_and, Bool.and_true, ir4, vpS L rfl, vpS L2 rfl, vpL hP rfl, eQ, eK, vpF hQ rfl, cu, nr, wA]
      refine (all_l0 p hc ps hps1 0 _ ⟨⟨?_, ?_, ?_, ?_⟩, ?_, ?_, ?_, by omega⟩).mono ?_ <;> (try simp -implicitDefEqProofs only [go_sem, ↓reduceIte, Nat.reduceEqDiff, Nat.reduceAdd, Nat.reduceSub, Nat.reduceMul, Nat.reduceLeDiff, Nat.reduceLT, Nat.reduceBEq, Nat.reduceBNe, reduceCtorEq, beq_self_eq_true, Int.toNat_natCast, List.length_map, List.length_nil, Int.reduceToNat, Int.reduceAdd, Int.reduceSub, Int.reduceMul, Int.reduceLT, Int.reduceLE, Int.reduceEq, Int.reduceBEq, Int.reduceNeg, decide_true, decide_false, Nat.le_max_left, Nat.le_max_right, ne_eq, not_true_eq_false, not_false_eq_true, Int.natCast_zero, gt_iff_lt, ge_iff_le, Int.reduceGT, Int.reduceGE, Bool.false_and, Bool.and_false, Bool.true_and, Bool.and_true, eQ, eK, openN])
      rintro e ⟨E, H⟩ ⟨rfl, ⟨e7, h7, e8, e9⟩, e10, e11⟩
      simp only at e7 h7 e8 e9 e10 e11
      simp -implicitDefEqProofs only [go_sem, ↓reduceIte, Nat.reduceEqDiff, Nat.reduceAdd, Nat.reduceSub, Nat.reduceMul, Nat.reduceLeDiff, Nat.reduceLT, Nat.reduceBEq, Nat.reduceBNe, reduceCtorEq, beq_self_eq_true, Int.toNat_natCast, List.length_map, List.length_nil, Int.reduceToNat, Int.reduceAdd, Int.reduceSub, Int.reduceMul, Int.reduceLT, Int.reduceLE, Int.reduceEq, Int.reduceBEq, Int.reduceNeg, decide_true, decide_false, Nat.le_max_left, Nat.le_max_right, ne_eq, not_true_eq_false, not_false_eq_true, Int.natCast_zero, gt_iff_lt, ge_iff_le, Int.reduceGT, Int.reduceGE, Bool.false_and, Bool.and_false, Bool.true_and, Bool.and_true, eQ, eK, e7, h7, e8, vpF B rfl]
      refine (all_l1 p hc ps _ (booked_ok hc ps (k := ps.length) (by omega)) 0 _ ⟨⟨?_, ?_, ?_, ?_⟩, ?_, ?_, ?_, ?_, by omega⟩).mono ?_ <;> (try simp -implicitDefEqProofs only [go_sem, ↓reduceIte, Nat.reduceEqDiff, Nat.reduceAdd, Nat.reduceSub, Nat.reduceMul, Nat.reduceLeDiff, Nat.reduceLT, Nat.reduceBEq, Nat.reduceBNe, reduceCtorEq, beq_self_eq_true, Int.toNat_natCast, List.length_map, List.length_nil, Int.reduceToNat, Int.reduceAdd, Int.reduceSub, Int.reduceMul, Int.reduceLT, Int.reduceLE, Int.reduceEq, Int.reduceBEq, Int.reduceNeg, decide_true, decide_false, Nat.le_max_left, Nat.le_max_right, ne_eq, not_true_eq_false, not_false_eq_true, Int.natCast_zero, gt_iff_lt, ge_iff_le, Int.reduceGT, Int.reduceGE, Bool.false_and, Bool.and_false, Bool.true_and, Bool.and_true, e7, h7, e8, e9, e10, e11, eQ, eK, roomAll])
      rintro e ⟨E, H⟩ ⟨rfl, ⟨e7, h7, e8, e9⟩, e10, e11, e13, e14, _⟩
      simp only at e7 h7 e8 e9 e10 e11 e13
      simp -implicitDefEqProofs only [go_sem, ↓reduceIte, Nat.reduceEqDiff, Nat.reduceAdd, Nat.reduceSub, Nat.reduceMul, Nat.reduceLeDiff, Nat.reduceLT, Nat.reduceBEq, Nat.reduceBNe, reduceCtorEq, beq_self_eq_true, Int.toNat_natCast, List.length_map, List.length_nil, Int.reduceToNat, Int.reduceAdd, Int.reduceSub, Int.reduceMul, Int.reduceLT, Int.reduceLE, Int.reduceEq, Int.reduceBEq, Int.reduceNeg, decide_true, decide_false, Nat.le_max_left, Nat.le_max_right, ne_eq, not_true_eq_false, not_false_eq_true, Int.natCast_zero, gt_iff_lt, ge_iff_le, Int.reduceGT, Int.reduceGE, Bool.false_and, Bool.and_false, Bool.true_and, Bool.and_true, eQ, eK, e7, h7, e8, e9, e10, e11, e13, bl, n1, vpS FV_awake18 rfl, vpS A1 rfl, vpS A2 rfl, vpS A3 rfl]
    · have L2 := FV_Light m
      rw [decide_eq_false hlen2] at L2
      simp -implicitDefEqProofs only [go_sem, ↓reduceIte, Nat.reduceEqDiff, Nat.reduceAdd, Nat.reduceSub, Nat.reduceMul, Nat.reduceLeDiff, Nat.reduceLT, Nat.reduceBEq, Nat.reduceBNe, reduceCtorEq, beq_self_eq_true, Int.toNat_natCast, List.length_map, List.length_nil, Int.reduceToNat, Int.reduceAdd, Int.reduceSub, Int.reduceMul, Int.reduceLT, Int.reduceLE, Int.reduceEq, Int.reduceBEq, Int.reduceNeg, decide_true, decide_false, Nat.le_max_left, Nat.le_max_right, ne_eq, not_true_eq_false, not_false_eq_true, Int.natCast_zero, gt_iff_lt, ge_iff_le, Int.reduceGT, Int.reduceGE, Bool.false_and, Bool.and_false, Bool.true_and, Bool.and_true, ir4, vpS L rfl, vpS L2 rfl, vpS FV_awake18 rfl]
  · have L := FV_Light l
    rw [decide_eq_false hlen] at L
    simp -implicitDefEqProofs only [go_sem, ↓reduceIte, Nat.reduceEqDiff, Nat.reduceAdd, Nat.reduceSub, Nat.reduceMul, Nat.reduceLeDiff, Nat.reduceLT, Nat.reduceBEq, Nat.reduceBNe, reduceCtorEq, beq_self_eq_true, Int.toNat_natCast, List.length_map, List.length_nil, Int.reduceToNat, Int.reduceAdd, Int.reduceSub, Int.reduceMul, Int.reduceLT, Int.reduceLE, Int.reduceEq, Int.reduceBEq, Int.reduceNeg, decide_true, decide_false, Nat.le_max_left, Nat.le_max_right, ne_eq, not_true_eq_false, not_false_eq_true, Int.natCast_zero, gt_iff_lt, ge_iff_le, Int.reduceGT, Int.reduceGE, Bool.false_and, Bool.and_false, Bool.true_and, Bool.and_true, ir4, vpS L rfl, vpS FV_awake18 rfl]
end Go.Proofs.Cp
