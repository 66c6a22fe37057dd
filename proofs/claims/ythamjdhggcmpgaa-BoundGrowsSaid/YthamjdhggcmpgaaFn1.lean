/- What the functions answer (part 1). -/
import Derived.Test.YthamjdhggcmpgaaFn0
set_option linter.unusedSimpArgs false
set_option linter.unusedVariables false
set_option maxRecDepth 100000
namespace Go.Proofs.Cp
open Go
theorem booked_l0 (p : Prob) (hc : ConfOk p.conf) (ps : List Plc) (N : Nat) (hN : N ≤ ps.length) (hN2 : N ≤ p.conf.tens.length) : ∀ k w, L25 p ps N k w → Ok (R PP shF 0 63 (.loop ir25_l0) w) (Q25 p ps N) := by
  refine Ok_up N (L25 p ps N) fun k w hI => ?_
  obtain ⟨E, H⟩ := w
  obtain ⟨ver, e2, h2, e5, h5, e22, e23, e24, hk⟩ := hI
  simp only at e2 h2 e5 h5 e22 e23 e24
  have hn := hc.lens.c
  have hn7 := hc.c1
  have ht5 := hc.t1
  have w1 : IntKind.wrap .i64 ((k : Int) + 1) = ((k + 1 : Nat) : Int) := by rw [w64 (by omega) (by omega)]; rfl
  by_cases hlt : k < N
  · have d1 : decide ((k : Int) < (N : Int)) = true := by simp; omega
    have q1 : (k : Int) < ((min N ps.length : Nat) : Int) := by omega
    have q1b : (k : Int) < (N : Int) ∧ (k : Int) < (ps.length : Int) := by omega
    have q0 : (0 : Int) ≤ (k : Int) := by omega
    have g1 := getD_at (l := ps) (i := k) (d := ⟨0, 0⟩) (by omega)
    have g2 := getD_at (l := p.conf.tens) (i := k) (d := ⟨0, 0, 0, 0, 0, 0, false⟩) (by omega)
    have q2 : (k : Int) < (p.conf.tens.length : Int) := by omega
    have B1 := FV_cell p (plc ps k).home
    have B2 := FV_cell p (plc ps k).sby
    have ht := ten_ok hc (k := k) (by omega)
    have tk : (List.take N ps)[k]? = some (plc ps k) := by rw [List.getElem?_take, if_pos hlt]; exact g1
    have tl : (k : Int) < ((List.take N ps).length : Int) := by rw [List.length_take]; omega
    have D1 := addAt_def (booked p.conf ps k) (plc ps k).home (ten p.conf k).load
    have D2 := addAt_def (addAt (booked p.conf ps k) (plc ps k).home (ten p.conf k).load) (plc ps k).sby (ten p.conf k).shadow
    have bd1 := booked_bd hc ps k (by omega)
    have bd2 := addAt_bd (i := (plc ps k).home) (x := (ten p.conf k).load) (X := 12) bd1 ⟨by have := ht.l0; omega, ht.l1⟩
    have bl1 := booked_len p.conf ps k
    have bl2 := addAt_len (booked p.conf ps k) (plc ps k).home (ten p.conf k).load
    rw [bl1] at bl2
    have hst : booked p.conf ps (k + 1) = addAt (addAt (booked p.conf ps k) (plc ps k).home (ten p.conf k).load) (plc ps k).sby (ten p.conf k).shadow := rfl
    have ht1 : (p.conf.tens.getD k ⟨0, 0, 0, 0, 0, 0, false⟩).load = (ten p.conf k).load := rfl
    have ht2 : (p.conf.tens.getD k ⟨0, 0, 0, 0, 0, 0, false⟩).shadow = (ten p.conf k).shadow := rfl
    have l0 := ht.l0
    have l1 := ht.l1
    have s0 := ht.s0
    have s1 := ht.s1
    generalize hD : booked p.conf ps (k + 1) = bb at *
    generalize hA : addAt (booked p.conf ps k) (plc ps k).home (ten p.conf k).load = A at *
    generalize hB : booked p.conf ps k = B at *
    generalize hC : addAt A (plc ps k).sby (ten p.conf k).shadow = C at *
    subst hst
    by_cases c1 : 0 ≤ (plc ps k).home ∧ (plc ps k).home < p.conf.cells.length
    · have f1 := D1.1 (by rw [bl1]; exact c1)
      have g3 := getD_at (l := B) (i := (plc ps k).home.toNat) (d := 0) (by rw [bl1]; omega)
      have b3 := bd1 (plc ps k).home.toNat
      have w2 : IntKind.wrap .i64 (B.getD (plc ps k).home.toNat 0 + (ten p.conf k).load) = B.getD (plc ps k).home.toNat 0 + (ten p.conf k).load := w64 (by omega) (by omega)
      rw [show (decide (0 ≤ (plc ps k).home) && decide ((plc ps k).home < (p.conf.cells.length : Int))) = true by simp; exact c1] at B1
      by_cases c2 : 0 ≤ (plc ps k).sby ∧ (plc ps k).sby < p.conf.cells.length
      · have f2 := D2.1 (by rw [bl2]; exact c2)
        have g4 := getD_at (l := A) (i := (plc ps k).sby.toNat) (d := 0) (by rw [bl2]; omega)
        have b4 := bd2 (plc ps k).sby.toNat
        have w3 : IntKind.wrap .i64 (A.getD (plc ps k).sby.toNat 0 + (ten p.conf k).shadow) = A.getD (plc ps k).sby.toNat 0 + (ten p.conf k).shadow := w64 (by omega) (by omega)
        rw [show (decide (0 ≤ (plc ps k).sby) && decide ((plc ps k).sby < (p.conf.cells.length : Int))) = true by simp; exact c2] at B2
        simp -implicitDefEqProofs only [go_sem, ↓reduceIte, Nat.reduceEqDiff, Nat.reduceAdd, Nat.reduceSub, Nat.reduceMul, Nat.reduceLeDiff, Nat.reduceLT, Nat.reduceBEq, Nat.reduceBNe, reduceCtorEq, beq_self_eq_true, Int.toNat_natCast, List.length_map, List.length_nil, Int.reduceToNat, Int.reduceAdd, Int.reduceSub, Int.reduceMul, Int.reduceLT, Int.reduceLE, Int.reduceEq, Int.reduceBEq, Int.reduceNeg, decide_true, decide_false, Nat.le_max_left, Nat.le_max_right, ne_eq, not_true_eq_false, not_false_eq_true, Int.natCast_zero, gt_iff_lt, ge_iff_le, Int.reduceGT, Int.reduceGE, Bool.false_and, Bool.and_false, Bool.true_and, Bool.and_true, ir25_l0, eQ, eK, e2, h2, e5, h5, e22, e23, e24, d1, w1, q0, q1, q1b, q2, tk, tl, g2, vpS B1 rfl, vpS B2 rfl, c1, c2, bl1, bl2, g3, g4, ht1, ht2, w2, w3, f1, f2]
        refine .next hlt ⟨ver, ?_, ?_, ?_, ?_, ?_, ?_, ?_, by omega⟩ <;> simp -implicitDefEqProofs only [go_sem, ↓reduceIte, Nat.reduceEqDiff, Nat.reduceAdd, Nat.reduceSub, Nat.reduceMul, Nat.reduceLeDiff, Nat.reduceLT, Nat.reduceBEq, Nat.reduceBNe, reduceCtorEq, beq_self_eq_true, Int.toNat_natCast, List.length_map, List.length_nil, Int.reduceToNat, Int.reduceAdd, Int.reduceSub, Int.reduceMul, Int.reduceLT, Int.reduceLE, Int.reduceEq, Int.reduceBEq, Int.reduceNeg, decide_true, decide_false, Nat.le_max_left, Nat.le_max_right, ne_eq, not_true_eq_false, not_false_eq_true, Int.natCast_zero, gt_iff_lt, ge_iff_le, Int.reduceGT, Int.reduceGE, Bool.false_and, Bool.and_false, Bool.true_and, Bool.and_true, e2, h2, e5, e22, e23, w1, eQ, hD]
      · have f2 := D2.2 (by rw [bl2]; exact c2)
        rw [show (decide (0 ≤ (plc ps k).sby) && decide ((plc ps k).sby < (p.conf.cells.length : Int))) = false by simp; omega] at B2
        simp -implicitDefEqProofs only [go_sem, ↓reduceIte, Nat.reduceEqDiff, Nat.reduceAdd, Nat.reduceSub, Nat.reduceMul, Nat.reduceLeDiff, Nat.reduceLT, Nat.reduceBEq, Nat.reduceBNe, reduceCtorEq, beq_self_eq_true, Int.toNat_natCast, List.length_map, List.length_nil, Int.reduceToNat, Int.reduceAdd, Int.reduceSub, Int.reduceMul, Int.reduceLT, Int.reduceLE, Int.reduceEq, Int.reduceBEq, Int.reduceNeg, decide_true, decide_false, Nat.le_max_left, Nat.le_max_right, ne_eq, not_true_eq_false, not_false_eq_true, Int.natCast_zero, gt_iff_lt, ge_iff_le, Int.reduceGT, Int.reduceGE, Bool.false_and, Bool.and_false, Bool.true_and, Bool.and_true, ir25_l0, eQ, eK, e2, h2, e5, h5, e22, e23, e24, d1, w1, q0, q1, q1b, q2, tk, tl, g2, vpS B1 rfl, vpS B2 rfl, c1, bl1, bl2, g3, ht1, ht2, w2, f1]
        refine .next hlt ⟨ver, ?_, ?_, ?_, ?_, ?_, ?_, ?_, by omega⟩ <;> simp -implicitDefEqProofs only [go_sem, ↓reduceIte, Nat.reduceEqDiff, Nat.reduceAdd, Nat.reduceSub, Nat.reduceMul, Nat.reduceLeDiff, Nat.reduceLT, Nat.reduceBEq, Nat.reduceBNe, reduceCtorEq, beq_self_eq_true, Int.toNat_natCast, List.length_map, List.length_nil, Int.reduceToNat, Int.reduceAdd, Int.reduceSub, Int.reduceMul, Int.reduceLT, Int.reduceLE, Int.reduceEq, Int.reduceBEq, Int.reduceNeg, decide_true, decide_false, Nat.le_max_left, Nat.le_max_right, ne_eq, not_true_eq_false, not_false_eq_true, Int.natCast_zero, gt_iff_lt, ge_iff_le, Int.reduceGT, Int.reduceGE, Bool.false_and, Bool.and_false, Bool.true_and, Bool.and_true, e2, h2, e5, e22, e23, w1, eQ, hD, f2]
    · have f1 := D1.2 (by rw [bl1]; exact c1)
      subst f1
      rw [show (decide (0 ≤ (plc ps k).home) && decide ((plc ps k).home < (p.conf.cells.length : Int))) = false by simp; omega] at B1
      by_cases c2 : 0 ≤ (plc ps k).sby ∧ (plc ps k).sby < p.conf.cells.length
      · have f2 := D2.1 (by rw [bl2]; exact c2)
        have g4 := getD_at (l := A) (i := (plc ps k).sby.toNat) (d := 0) (by rw [bl2]; omega)
        have b4 := bd2 (plc ps k).sby.toNat
        have w3 : IntKind.wrap .i64 (A.getD (plc ps k).sby.toNat 0 + (ten p.conf k).shadow) = A.getD (plc ps k).sby.toNat 0 + (ten p.conf k).shadow := w64 (by omega) (by omega)
        rw [show (decide (0 ≤ (plc ps k).sby) && decide ((plc ps k).sby < (p.conf.cells.length : Int))) = true by simp; exact c2] at B2
        simp -implicitDefEqProofs only [go_sem, ↓reduceIte, Nat.reduceEqDiff, Nat.reduceAdd, Nat.reduceSub, Nat.reduceMul, Nat.reduceLeDiff, Nat.reduceLT, Nat.reduceBEq, Nat.reduceBNe, reduceCtorEq, beq_self_eq_true, Int.toNat_natCast, List.length_map, List.length_nil, Int.reduceToNat, Int.reduceAdd, Int.reduceSub, Int.reduceMul, Int.reduceLT, Int.reduceLE, Int.reduceEq, Int.reduceBEq, Int.reduceNeg, decide_true, decide_false, Nat.le_max_left, Nat.le_max_right, ne_eq, not_true_eq_false, not_false_eq_true, Int.natCast_zero, gt_iff_lt, ge_iff_le, Int.reduceGT, Int.reduceGE, Bool.false_and, Bool.and_false, Bool.true_and, Bool.and_true, ir25_l0, eQ, eK, e2, h2, e5, h5, e22, e23, e24, d1, w1, q0, q1, q1b, q2, tk, tl, g2, vpS B1 rfl, vpS B2 rfl, c2, bl1, bl2, g4, ht1, ht2, w3, f2]
        refine .next hlt ⟨ver, ?_, ?_, ?_, ?_, ?_, ?_, ?_, by omega⟩ <;> simp -implicitDefEqProofs only [go_sem, ↓reduceIte, Nat.reduceEqDiff, Nat.reduceAdd, Nat.reduceSub, Nat.reduceMul, Nat.reduceLeDiff, Nat.reduceLT, Nat.reduceBEq, Nat.reduceBNe, reduceCtorEq, beq_self_eq_true, Int.toNat_natCast, List.length_map, List.length_nil, Int.reduceToNat, Int.reduceAdd, Int.reduceSub, Int.reduceMul, Int.reduceLT, Int.reduceLE, Int.reduceEq, Int.reduceBEq, Int.reduceNeg, decide_true, decide_false, Nat.le_max_left, Nat.le_max_right, ne_eq, not_true_eq_false, not_false_eq_true, Int.natCast_zero, gt_iff_lt, ge_iff_le, Int.reduceGT, Int.reduceGE, Bool.false_and, Bool.and_false, Bool.true_and, Bool.and_true, e2, h2, e5, e22, e23, w1, eQ, hD]
      · have f2 := D2.2 (by rw [bl2]; exact c2)
        rw [show (decide (0 ≤ (plc ps k).sby) && decide ((plc ps k).sby < (p.conf.cells.length : Int))) = false by simp; omega] at B2
        simp -implicitDefEqProofs only [go_sem, ↓reduceIte, Nat.reduceEqDiff, Nat.reduceAdd, Nat.reduceSub, Nat.reduceMul, Nat.reduceLeDiff, Nat.reduceLT, Nat.reduceBEq, Nat.reduceBNe, reduceCtorEq, beq_self_eq_true, Int.toNat_natCast, List.length_map, List.length_nil, Int.reduceToNat, Int.reduceAdd, Int.reduceSub, Int.reduceMul, Int.reduceLT, Int.reduceLE, Int.reduceEq, Int.reduceBEq, Int.reduceNeg, decide_true, decide_false, Nat.le_max_left, Nat.le_max_right, ne_eq, not_true_eq_false, not_false_eq_true, Int.natCast_zero, gt_iff_lt, ge_iff_le, Int.reduceGT, Int.reduceGE, Bool.false_and, Bool.and_false, Bool.true_and, Bool.and_true, ir25_l0, eQ, eK, e2, h2, e5, h5, e22, e23, e24, d1, w1, q0, q1, q1b, q2, tk, tl, g2, vpS B1 rfl, vpS B2 rfl, bl1, bl2, ht1, ht2]
        refine .next hlt ⟨ver, ?_, ?_, ?_, ?_, ?_, ?_, ?_, by omega⟩ <;> simp -implicitDefEqProofs only [go_sem, ↓reduceIte, Nat.reduceEqDiff, Nat.reduceAdd, Nat.reduceSub, Nat.reduceMul, Nat.reduceLeDiff, Nat.reduceLT, Nat.reduceBEq, Nat.reduceBNe, reduceCtorEq, beq_self_eq_true, Int.toNat_natCast, List.length_map, List.length_nil, Int.reduceToNat, Int.reduceAdd, Int.reduceSub, Int.reduceMul, Int.reduceLT, Int.reduceLE, Int.reduceEq, Int.reduceBEq, Int.reduceNeg, decide_true, decide_false, Nat.le_max_left, Nat.le_max_right, ne_eq, not_true_eq_false, not_false_eq_true, Int.natCast_zero, gt_iff_lt, ge_iff_le, Int.reduceGT, Int.reduceGE, Bool.false_and, Bool.and_false, Bool.true_and, Bool.and_true, e2, h2, e5, h5, e22, e23, w1, eQ, hD, f2]
  · have : k = N := by omega
    subst this
    have d1 : decide ((k : Int) < (k : Int)) = false := by simp
    simp -implicitDefEqProofs only [go_sem, ↓reduceIte, Nat.reduceEqDiff, Nat.reduceAdd, Nat.reduceSub, Nat.reduceMul, Nat.reduceLeDiff, Nat.reduceLT, Nat.reduceBEq, Nat.reduceBNe, reduceCtorEq, beq_self_eq_true, Int.toNat_natCast, List.length_map, List.length_nil, Int.reduceToNat, Int.reduceAdd, Int.reduceSub, Int.reduceMul, Int.reduceLT, Int.reduceLE, Int.reduceEq, Int.reduceBEq, Int.reduceNeg, decide_true, decide_false, Nat.le_max_left, Nat.le_max_right, ne_eq, not_true_eq_false, not_false_eq_true, Int.natCast_zero, gt_iff_lt, ge_iff_le, Int.reduceGT, Int.reduceGE, Bool.false_and, Bool.and_false, Bool.true_and, Bool.and_true, ir25_l0, e23, e24, d1]
    exact .exit ⟨rfl, ver, by simp -implicitDefEqProofs only [go_sem, ↓reduceIte, Nat.reduceEqDiff, Nat.reduceAdd, Nat.reduceSub, Nat.reduceMul, Nat.reduceLeDiff, Nat.reduceLT, Nat.reduceBEq, Nat.reduceBNe, reduceCtorEq, beq_self_eq_true, Int.toNat_natCast, List.length_map, List.length_nil, Int.reduceToNat, Int.reduceAdd, Int.reduceSub, Int.reduceMul, Int.reduceLT, Int.reduceLE, Int.reduceEq, Int.reduceBEq, Int.reduceNeg, decide_true, decide_false, Nat.le_max_left, Nat.le_max_right, ne_eq, not_true_eq_false, not_false_eq_true, Int.natCast_zero, gt_iff_lt, ge_iff_le, Int.reduceGT, Int.reduceGE, Bool.false_and, Bool.and_false, Bool.true_and, Bool.and_true, e5], h5⟩
theorem FVF_Booked (p : Prob) (hc : ConfOk p.conf) (ps : List Plc) (hp : ps.length ≤ 1000000) : FVF PP shF 25 [.agg (eQ p), .sl (ps.map eP)] (dL (booked p.conf ps (min ps.length p.conf.tens.length))) := by
  refine FVF_ok (F_ok PP25 rfl ⟨by simp [ir25], by simp⟩ ?_)
  have hn := hc.lens.c
  have hc0 : p.conf.cells.length ≠ 0 := by have := hc.c0; have := hc.z0; have := hc.r0; omega
  have ht := hc.t1
  have m1 : (0 : Int) ≤ (p.conf.cells.length : Int) ∧ (p.conf.cells.length : Int) ≤ (p.conf.cells.length : Int) ∧ ((8 : Nat) : Int) * (p.conf.cells.length : Int) ≤ 281474976710656 ∧ (p.conf.cells.length : Int) ≤ 9223372036854775807 := by omega
  have mn : (if (p.conf.tens.length : Int) < (ps.length : Int) then (p.conf.tens.length : Int) else (ps.length : Int)) = ((min ps.length p.conf.tens.length : Nat) : Int) := by split <;> omega
  have hN1 : min ps.length p.conf.tens.length ≤ ps.length := by omega
  have hN2 : min ps.length p.conf.tens.length ≤ p.conf.tens.length := by omega
  generalize min ps.length p.conf.tens.length = N at *
  have m2 : (0 : Int) ≤ (N : Int) ∧ (N : Int) ≤ (ps.length : Int) := by omega
  have m3 : (List.map eP ps).all (fun el => el.length == 2) = true := by simp [List.all_eq_true]
  have htk : List.take N (ps.map eP) = (ps.take N).map eP := List.map_take.symm
  have hln : ((List.take N ps).length : Int) = (N : Int) := by rw [List.length_take]; omega
  simp -implicitDefEqProofs only [go_sem, ↓reduceIte, Nat.reduceEqDiff, Nat.reduceAdd, Nat.reduceSub, Nat.reduceMul, Nat.reduceLeDiff, Nat.reduceLT, Nat.reduceBEq, Nat.reduceBNe, reduceCtorEq, beq_self_eq_true, Int.toNat_natCast, List.length_map, List.length_nil, Int.reduceToNat, Int.reduceAdd, Int.reduceSub, Int.reduceMul, Int.reduceLT, Int.reduceLE, Int.reduceEq, Int.reduceBEq, Int.reduceNeg, decide_true, decide_false, Nat.le_max_left, Nat.le_max_right, ne_eq, not_true_eq_false, not_false_eq_true, Int.natCast_zero, gt_iff_lt, ge_iff_le, Int.reduceGT, Int.reduceGE, Bool.false_and, Bool.and_false, Bool.true_and, Bool.and_true, ir25, eQ, eK, m1, mn, m2, m3, htk, hln]
  refine (booked_l0 p hc ps N hN1 hN2 0 _ ?_).mono ?_
  · refine ⟨1, ?_, ?_, ?_, ?_, ?_, ?_, ?_, by omega⟩ <;> simp -implicitDefEqProofs only [go_sem, ↓reduceIte, Nat.reduceEqDiff, Nat.reduceAdd, Nat.reduceSub, Nat.reduceMul, Nat.reduceLeDiff, Nat.reduceLT, Nat.reduceBEq, Nat.reduceBNe, reduceCtorEq, beq_self_eq_true, Int.toNat_natCast, List.length_map, List.length_nil, Int.reduceToNat, Int.reduceAdd, Int.reduceSub, Int.reduceMul, Int.reduceLT, Int.reduceLE, Int.reduceEq, Int.reduceBEq, Int.reduceNeg, decide_true, decide_false, Nat.le_max_left, Nat.le_max_right, ne_eq, not_true_eq_false, not_false_eq_true, Int.natCast_zero, gt_iff_lt, ge_iff_le, Int.reduceGT, Int.reduceGE, Bool.false_and, Bool.and_false, Bool.true_and, Bool.and_true, eQ, booked, List.map_replicate]
  rintro e ⟨E, H⟩ ⟨rfl, ver, e5, h5⟩
  simp only at e5 h5
  have ho : SlB H 13 1 ((booked p.conf ps N).map eI) (.ms 13 ver 0 p.conf.cells.length p.conf.cells.length) := SlB.mk (by simp [booked_len]) hc0 h5
  simp -implicitDefEqProofs only [go_sem, ↓reduceIte, Nat.reduceEqDiff, Nat.reduceAdd, Nat.reduceSub, Nat.reduceMul, Nat.reduceLeDiff, Nat.reduceLT, Nat.reduceBEq, Nat.reduceBNe, reduceCtorEq, beq_self_eq_true, Int.toNat_natCast, List.length_map, List.length_nil, Int.reduceToNat, Int.reduceAdd, Int.reduceSub, Int.reduceMul, Int.reduceLT, Int.reduceLE, Int.reduceEq, Int.reduceBEq, Int.reduceNeg, decide_true, decide_false, Nat.le_max_left, Nat.le_max_right, ne_eq, not_true_eq_false, not_false_eq_true, Int.natCast_zero, gt_iff_lt, ge_iff_le, Int.reduceGT, Int.reduceGE, Bool.false_and, Bool.and_false, Bool.true_and, Bool.and_true, e5, ho.frz (by decide) (closed_eI _), ho.fresh (by decide) (lits_eI _)]
theorem fin8 {n : Nat} {a : Int} (h0 : 0 ≤ a) (h1 : a < n) : ∃ x : Fin n, a = ((x.val : Nat) : Int) := ⟨⟨a.toNat, by omega⟩, by simp; omega⟩
theorem allR_lt {R : Int} (h : 0 ≤ R ∧ R ≤ 3) : 0 ≤ allR R ∧ allR R < 8 := by
  obtain rfl | rfl | rfl | rfl : R = 0 ∨ R = 1 ∨ R = 2 ∨ R = 3 := by omega
  all_goals decide
theorem orI_pow8 : ∀ a : Fin 8, ∀ R : Fin 4, ∀ r : Fin 3, ((a.val : Nat) : Int) ≤ allR ((R.val : Nat) : Int) → ((r.val : Nat) : Int) < ((R.val : Nat) : Int) → 0 ≤ orI .i64 ((a.val : Nat) : Int) (2 ^ (((r.val : Nat) : Int)).toNat) ∧ orI .i64 ((a.val : Nat) : Int) (2 ^ (((r.val : Nat) : Int)).toNat) ≤ allR ((R.val : Nat) : Int) := by decide +kernel
theorem orI_pow {a R r : Int} (hR : 0 ≤ R ∧ R ≤ 3) (ha : 0 ≤ a ∧ a ≤ allR R) (hr : 0 ≤ r ∧ r < R) : 0 ≤ orI .i64 a (2 ^ r.toNat) ∧ orI .i64 a (2 ^ r.toNat) ≤ allR R := by
  have := allR_lt hR
  obtain ⟨x, rfl⟩ := fin8 (n := 8) ha.1 (by omega)
  obtain ⟨y, rfl⟩ := fin8 (n := 4) hR.1 (by omega)
  obtain ⟨z, rfl⟩ := fin8 (n := 3) hr.1 (by omega)
  exact orI_pow8 x y z ha.2 hr.2
theorem reach_bd {p : Prob} (hc : ConfOk p.conf) (t : Int) : ∀ k : Nat, k ≤ p.conf.cells.length → 0 ≤ reach p t k ∧ reach p t k ≤ allR p.conf.regions
  | 0, _ => by
    have h0 := hc.r0
    have h1 := hc.r1
    have := allR_lt (R := p.conf.regions) ⟨by omega, h1⟩
    simp only [reach]; omega
  | k + 1, hk => by
    have h := reach_bd hc t k (by omega)
    have h0 := hc.r0
    simp only [reach]
    split
    · exact orI_pow ⟨by omega, hc.r1⟩ h (hc.regOf (by omega) (by omega))
    · exact h
theorem andNot_small (a : Nat) (ha : a < 8) (s : Int) : andNotI .i64 (a : Int) s = ((a &&& (7 - (s % 8).toNat) : Nat) : Int) := by
  have e1 : (BitVec.ofInt 64 (a : Int)).toNat = a := by rw [BitVec.toNat_ofInt]; omega
  have e2 : (BitVec.ofInt 64 (a : Int) &&& ~~~ (BitVec.ofInt 64 s)).toNat = a &&& (7 - (s % 8).toNat) := by
    rw [BitVec.toNat_and, e1, BitVec.toNat_not, BitVec.toNat_ofInt]
    have h1 : a &&& (2 ^ 64 - 1 - (s % ((2 ^ 64 : Nat) : Int)).toNat) ≤ a := Nat.and_le_left
    have h2 := @Nat.and_mod_two_pow a (2 ^ 64 - 1 - (s % ((2 ^ 64 : Nat) : Int)).toNat) 3
    rw [Nat.mod_eq_of_lt (show _ < 2 ^ 3 by omega)] at h2
    rw [h2, Nat.mod_eq_of_lt (show a < 2 ^ 3 by omega)]
    congr 1
    omega
  show IntKind.wrap .i64 (((BitVec.ofInt 64 (a : Int) &&& ~~~ (BitVec.ofInt 64 s)).toNat : Nat) : Int) = _
  rw [e2]
  have : a &&& (7 - (s % 8).toNat) ≤ a := Nat.and_le_left
  exact w64 (by omega) (by omega)
theorem andNot_mod (a : Nat) (ha : a < 8) (s : Int) : andNotI .i64 (a : Int) s = andNotI .i64 (a : Int) (s % 8) := by
  rw [andNot_small a ha, andNot_small a ha, Int.emod_emod_of_dvd s (by decide)]
theorem bit_mod8 (s : Int) {r : Nat} (hr : r < 3) : bit s (r : Nat) = bit (s % 8) (r : Nat) := by
  unfold bit
  obtain rfl | rfl | rfl : r = 0 ∨ r = 1 ∨ r = 2 := by omega
  all_goals (simp; try omega)
/-- Whether the first regions of a set lie in another. -/
def subN (a s : Int) : Nat → Bool
  | 0 => true
  | r + 1 => subN a s r && !(has a (r : Nat) && !has s (r : Nat))
theorem subN_mod (a s : Int) : ∀ r : Nat, r ≤ 3 → subN a s r = subN a (s % 8) r
  | 0, _ => rfl
  | r + 1, h => by
    simp only [subN, has]
    rw [subN_mod a s r (by omega), bit_mod8 s (show r < 3 by omega)]
theorem subN8 : ∀ a m : Fin 8, ∀ R : Fin 4, ((a.val : Nat) : Int) ≤ allR ((R.val : Nat) : Int) → subN ((a.val : Nat) : Int) ((m.val : Nat) : Int) R.val = (andNotI .i64 ((a.val : Nat) : Int) ((m.val : Nat) : Int) == 0) := by decide +kernel
theorem subN_eq {a s : Int} {R : Nat} (hR : R ≤ 3) (ha : 0 ≤ a ∧ a ≤ allR (R : Nat)) : subN a s R = (andNotI .i64 a s == 0) := by
  have := allR_lt (R := (R : Nat)) ⟨by omega, by omega⟩
  obtain ⟨x, rfl⟩ := fin8 (n := 8) ha.1 (by omega)
  obtain ⟨m, hm⟩ := fin8 (n := 8) (a := s % 8) (by omega) (by omega)
  rw [subN_mod _ _ _ hR, andNot_mod _ x.isLt, hm]
  exact subN8 x m ⟨R, by omega⟩ ha.2
def needB (p : Prob) (ps : List Plc) (s : Int) (k : Nat) : Bool := (plc ps k).home == -1 && andNotI .i64 (reach p (k : Nat) p.conf.cells.length) s == 0
def need (p : Prob) (ps : List Plc) (s : Int) : Nat → Int
  | 0 => 0
  | k + 1 => if needB p ps s k = true then need p ps s k + (ten p.conf (k : Nat)).load else need p ps s k
theorem need_bd {p : Prob} (hc : ConfOk p.conf) (ps : List Plc) (s : Int) : ∀ k : Nat, k ≤ p.conf.tens.length → 0 ≤ need p ps s k ∧ need p ps s k ≤ 12 * k
  | 0, _ => by simp [need]
  | k + 1, hk => by
    have h := need_bd hc ps s k (by omega)
    have ht := ten_ok hc (k := k) (by omega)
    have := ht.l0
    have := ht.l1
    simp only [need]
    split <;> omega
def L19 (p : Prob) (ps : List Plc) (s : Int) (k : Nat) (w : VSt) : Prop := gt .bad w.E 3 = .mp 3 1 0 0 ∧ hg w.H 3 = ⟨1, 0, true, [eQ p]⟩ ∧ gt .bad w.E 2 = dI s ∧ gt .bad w.E 7 = dI (need p ps s k) ∧
  gt .bad w.E 18 = .sl (ps.map eP) ∧ gt .bad w.E 19 = dI (ps.length : Nat) ∧ gt .bad w.E 20 = dI (k : Nat) ∧ k ≤ ps.length
theorem need_l0 (p : Prob) (hc : ConfOk p.conf) (ps : List Plc) (hp : ps.length = p.conf.tens.length) (s : Int) : ∀ k w, L19 p ps s k w → Ok (R PP shF 0 47 (.loop ir19_l0) w) (fun e w => e = .exit 0 ∧ gt .bad w.E 7 = dI (need p ps s ps.length)) := by
  refine Ok_up ps.length (L19 p ps s) fun k w hI => ?_
  obtain ⟨E, H⟩ := w
  obtain ⟨e3, h3, e2, e7, e18, e19, e20, hk⟩ := hI
  simp only at e3 h3 e2 e7 e18 e19 e20
  have ht5 := hc.t1
  have w1 : IntKind.wrap .i64 ((k : Int) + 1) = ((k + 1 : Nat) : Int) := by rw [w64 (by omega) (by omega)]; rfl
  by_cases hlt : k < ps.length
  · have d1 : decide ((k : Int) < (ps.length : Int)) = true := by simp; omega
    have q1 : (k : Int) < (ps.length : Int) := by omega
    have q0 : (0 : Int) ≤ (k : Int) := by omega
    have q2 : (k : Int) < (p.conf.tens.length : Int) := by omega
    have g1 : ps[k]? = some (plc ps k) := getD_at (l := ps) (i := k) (d := ⟨0, 0⟩) (by omega)
    have g2 := getD_at (l := p.conf.tens) (i := k) (d := ⟨0, 0, 0, 0, 0, 0, false⟩) (by omega)
    have ht1 : (p.conf.tens.getD k ⟨0, 0, 0, 0, 0, 0, false⟩).load = (ten p.conf k).load := rfl
    have B := FV_Reach p hc k
    cases hh : (plc ps k).home == -1 with
    | true =>
      cases ha : (andNotI .i64 (reach p (k : Nat) p.conf.cells.length) s == 0) with
      | true =>
        have hu : need p ps s (k + 1) = need p ps s k + (ten p.conf (k : Nat)).load := by simp only [need, needB, hh, ha]; rfl
        have bd := need_bd hc ps s (k + 1) (by omega)
        have w2 : IntKind.wrap .i64 (need p ps s k + (ten p.conf (k : Nat)).load) = need p ps s (k + 1) := by rw [← hu]; exact w64 (by omega) (by omega)
        simp -implicitDefEqProofs only [go_sem, ↓reduceIte, Nat.reduceEqDiff, Nat.reduceAdd, Nat.reduceSub, Nat.reduceMul, Nat.reduceLeDiff, Nat.reduceLT, Nat.reduceBEq, Nat.reduceBNe, reduceCtorEq, beq_self_eq_true, Int.toNat_natCast, List.length_map, List.length_nil, Int.reduceToNat, Int.reduceAdd, Int.reduceSub, Int.reduceMul, Int.reduceLT, Int.reduceLE, Int.reduceEq, Int.reduceBEq, Int.reduceNeg, decide_true, decide_false, Nat.le_max_left, Nat.le_max_right, ne_eq, not_true_eq_false, not_false_eq_true, Int.natCast_zero, gt_iff_lt, ge_iff_le, Int.reduceGT, Int.reduceGE, Bool.false_and, Bool.and_false, Bool.true_and, Bool.and_true, ir19_l0, eQ, eK, e3, h3, e2, e7, e18, e19, e20, d1, w1, q0, q1, q2, g1, g2, hh, ha, vpS B rfl, ht1, w2]
        refine .next hlt ⟨?_, ?_, ?_, ?_, ?_, ?_, ?_, by omega⟩ <;> simp -implicitDefEqProofs only [go_sem, ↓reduceIte, Nat.reduceEqDiff, Nat.reduceAdd, Nat.reduceSub, Nat.reduceMul, Nat.reduceLeDiff, Nat.reduceLT, Nat.reduceBEq, Nat.reduceBNe, reduceCtorEq, beq_self_eq_true, Int.toNat_natCast, List.length_map, List.length_nil, Int.reduceToNat, Int.reduceAdd, Int.reduceSub, Int.reduceMul, Int.reduceLT, Int.reduceLE, Int.reduceEq, Int.reduceBEq, Int.reduceNeg, decide_true, decide_false, Nat.le_max_left, Nat.le_max_right, ne_eq, not_true_eq_false, not_false_eq_true, Int.natCast_zero, gt_iff_lt, ge_iff_le, Int.reduceGT, Int.reduceGE, Bool.false_and, Bool.and_false, Bool.true_and, Bool.and_true, e3, h3, e2, e18, e19, w1, eQ]
      | false =>
        have hu : need p ps s (k + 1) = need p ps s k := by simp only [need, needB, hh, ha]; rfl
        simp -implicitDefEqProofs only [go_sem, ↓reduceIte, Nat.reduceEqDiff, Nat.reduceAdd, Nat.reduceSub, Nat.reduceMul, Nat.reduceLeDiff, Nat.reduceLT, Nat.reduceBEq, Nat.reduceBNe, reduceCtorEq, beq_self_eq_true, Int.toNat_natCast, List.length_map, List.length_nil, Int.reduceToNat, Int.reduceAdd, Int.reduceSub, Int.reduceMul, Int.reduceLT, Int.reduceLE, Int.reduceEq, Int.reduceBEq, Int.reduceNeg, decide_true, decide_false, Nat.le_max_left, Nat.le_max_right, ne_eq, not_true_eq_false, not_false_eq_true, Int.natCast_zero, gt_iff_lt, ge_iff_le, Int.reduceGT, Int.reduceGE, Bool.false_and, Bool.and_false, Bool.true_and, Bool.and_true, ir19_l0, eQ, eK, e3, h3, e2, e7, e18, e19, e20, d1, w1, q0, q1, q2, g1, g2, hh, ha, vpS B rfl, ht1]
        refine .next hlt ⟨?_, ?_, ?_, ?_, ?_, ?_, ?_, by omega⟩ <;> simp -implicitDefEqProofs only [go_sem, ↓reduceIte, Nat.reduceEqDiff, Nat.reduceAdd, Nat.reduceSub, Nat.reduceMul, Nat.reduceLeDiff, Nat.reduceLT, Nat.reduceBEq, Nat.reduceBNe, reduceCtorEq, beq_self_eq_true, Int.toNat_natCast, List.length_map, List.length_nil, Int.reduceToNat, Int.reduceAdd, Int.reduceSub, Int.reduceMul, Int.reduceLT, Int.reduceLE, Int.reduceEq, Int.reduceBEq, Int.reduceNeg, decide_true, decide_false, Nat.le_max_left, Nat.le_max_right, ne_eq, not_true_eq_false, not_false_eq_true, Int.natCast_zero, gt_iff_lt, ge_iff_le, Int.reduceGT, Int.reduceGE, Bool.false_and, Bool.and_false, Bool.true_and, Bool.and_true, e3, h3, e2, e7, e18, e19, w1, eQ, hu]
    | false =>
      have hu : need p ps s (k + 1) = need p ps s k := by simp only [need, needB, hh]; rfl
      simp -implicitDefEqProofs only [go_sem, ↓reduceIte, Nat.reduceEqDiff, Nat.reduceAdd, Nat.reduceSub, Nat.reduceMul, Nat.reduceLeDiff, Nat.reduceLT, Nat.reduceBEq, Nat.reduceBNe, reduceCtorEq, beq_self_eq_true, Int.toNat_natCast, List.length_map, List.length_nil, Int.reduceToNat, Int.reduceAdd, Int.reduceSub, Int.reduceMul, Int.reduceLT, Int.reduceLE, Int.reduceEq, Int.reduceBEq, Int.reduceNeg, decide_true, decide_false, Nat.le_max_left, Nat.le_max_right, ne_eq, not_true_eq_false, not_false_eq_true, Int.natCast_zero, gt_iff_lt, ge_iff_le, Int.reduceGT, Int.reduceGE, Bool.false_and, Bool.and_false, Bool.true_and, Bool.and_true, ir19_l0, eQ, eK, e3, h3, e2, e7, e18, e19, e20, d1, w1, q0, q1, q2, g1, g2, hh, vpS B rfl, ht1]
      refine .next hlt ⟨?_, ?_, ?_, ?_, ?_, ?_, ?_, by omega⟩ <;> simp -implicitDefEqProofs only [go_sem, ↓reduceIte, Nat.reduceEqDiff, Nat.reduceAdd, Nat.reduceSub, Nat.reduceMul, Nat.reduceLeDiff, Nat.reduceLT, Nat.reduceBEq, Nat.reduceBNe, reduceCtorEq, beq_self_eq_true, Int.toNat_natCast, List.length_map, List.length_nil, Int.reduceToNat, Int.reduceAdd, Int.reduceSub, Int.reduceMul, Int.reduceLT, Int.reduceLE, Int.reduceEq, Int.reduceBEq, Int.reduceNeg, decide_true, decide_false, Nat.le_max_left, Nat.le_max_right, ne_eq, not_true_eq_false, not_false_eq_true, Int.natCast_zero, gt_iff_lt, ge_iff_le, Int.reduceGT, Int.reduceGE, Bool.false_and, Bool.and_false, Bool.true_and, Bool.and_true, e3, h3, e2, e7, e18, e19, w1, eQ, hu]
  · have : k = ps.length := by omega
    subst this
    have d1 : decide ((ps.length : Int) < (ps.length : Int)) = false := by simp
    simp -implicitDefEqProofs only [go_sem, ↓reduceIte, Nat.reduceEqDiff, Nat.reduceAdd, Nat.reduceSub, Nat.reduceMul, Nat.reduceLeDiff, Nat.reduceLT, Nat.reduceBEq, Nat.reduceBNe, reduceCtorEq, beq_self_eq_true, Int.toNat_natCast, List.length_map, List.length_nil, Int.reduceToNat, Int.reduceAdd, Int.reduceSub, Int.reduceMul, Int.reduceLT, Int.reduceLE, Int.reduceEq, Int.reduceBEq, Int.reduceNeg, decide_true, decide_false, Nat.le_max_left, Nat.le_max_right, ne_eq, not_true_eq_false, not_false_eq_true, Int.natCast_zero, gt_iff_lt, ge_iff_le, Int.reduceGT, Int.reduceGE, Bool.false_and, Bool.and_false, Bool.true_and, Bool.and_true, ir19_l0, e19, e20, d1]
    exact .exit ⟨rfl, by simp -implicitDefEqProofs only [go_sem, ↓reduceIte, Nat.reduceEqDiff, Nat.reduceAdd, Nat.reduceSub, Nat.reduceMul, Nat.reduceLeDiff, Nat.reduceLT, Nat.reduceBEq, Nat.reduceBNe, reduceCtorEq, beq_self_eq_true, Int.toNat_natCast, List.length_map, List.length_nil, Int.reduceToNat, Int.reduceAdd, Int.reduceSub, Int.reduceMul, Int.reduceLT, Int.reduceLE, Int.reduceEq, Int.reduceBEq, Int.reduceNeg, decide_true, decide_false, Nat.le_max_left, Nat.le_max_right, ne_eq, not_true_eq_false, not_false_eq_true, Int.natCast_zero, gt_iff_lt, ge_iff_le, Int.reduceGT, Int.reduceGE, Bool.false_and, Bool.and_false, Bool.true_and, Bool.and_true, e7]⟩
theorem FV_Need (p : Prob) (hc : ConfOk p.conf) (ps : List Plc) (hp : ps.length = p.conf.tens.length) (s : Int) : FV PP shF 19 [.agg (eQ p), .sl (ps.map eP), dI s] = some (dI (need p ps s ps.length)) := by
  refine FV_ok (F_ok PP19 rfl ⟨by simp [ir19], by simp⟩ ?_)
  have hlt : ¬ (p.conf.tens.length : Int) < (ps.length : Int) := by omega
  have m2 : (0 : Int) ≤ (ps.length : Int) ∧ (ps.length : Int) ≤ (ps.length : Int) := by omega
  have m3 : (List.map eP ps).all (fun el => el.length == 2) = true := by simp [List.all_eq_true]
  have htk : List.take ps.length (ps.map eP) = ps.map eP := List.take_of_length_le (by simp)
  simp -implicitDefEqProofs only [go_sem, ↓reduceIte, Nat.reduceEqDiff, Nat.reduceAdd, Nat.reduceSub, Nat.reduceMul, Nat.reduceLeDiff, Nat.reduceLT, Nat.reduceBEq, Nat.reduceBNe, reduceCtorEq, beq_self_eq_true, Int.toNat_natCast, List.length_map, List.length_nil, Int.reduceToNat, Int.reduceAdd, Int.reduceSub, Int.reduceMul, Int.reduceLT, Int.reduceLE, Int.reduceEq, Int.reduceBEq, Int.reduceNeg, decide_true, decide_false, Nat.le_max_left, Nat.le_max_right, ne_eq, not_true_eq_false, not_false_eq_true, Int.natCast_zero, gt_iff_lt, ge_iff_le, Int.reduceGT, Int.reduceGE, Bool.false_and, Bool.and_false, Bool.true_and, Bool.and_true, ir19, eQ, eK, hlt, m2, m3, htk]
  refine (need_l0 p hc ps hp s 0 _ ?_).mono ?_
  · refine ⟨?_, ?_, ?_, ?_, ?_, ?_, ?_, by omega⟩ <;> simp -implicitDefEqProofs only [go_sem, ↓reduceIte, Nat.reduceEqDiff, Nat.reduceAdd, Nat.reduceSub, Nat.reduceMul, Nat.reduceLeDiff, Nat.reduceLT, Nat.reduceBEq, Nat.reduceBNe, reduceCtorEq, beq_self_eq_true, Int.toNat_natCast, List.length_map, List.length_nil, Int.reduceToNat, Int.reduceAdd, Int.reduceSub, Int.reduceMul, Int.reduceLT, Int.reduceLE, Int.reduceEq, Int.reduceBEq, Int.reduceNeg, decide_true, decide_false, Nat.le_max_left, Nat.le_max_right, ne_eq, not_true_eq_false, not_false_eq_true, Int.natCast_zero, gt_iff_lt, ge_iff_le, Int.reduceGT, Int.reduceGE, Bool.false_and, Bool.and_false, Bool.true_and, Bool.and_true, eQ, need]
  rintro e ⟨E, H⟩ ⟨rfl, e7⟩
  simp only at e7
  simp -implicitDefEqProofs only [go_sem, ↓reduceIte, Nat.reduceEqDiff, Nat.reduceAdd, Nat.reduceSub, Nat.reduceMul, Nat.reduceLeDiff, Nat.reduceLT, Nat.reduceBEq, Nat.reduceBNe, reduceCtorEq, beq_self_eq_true, Int.toNat_natCast, List.length_map, List.length_nil, Int.reduceToNat, Int.reduceAdd, Int.reduceSub, Int.reduceMul, Int.reduceLT, Int.reduceLE, Int.reduceEq, Int.reduceBEq, Int.reduceNeg, decide_true, decide_false, Nat.le_max_left, Nat.le_max_right, ne_eq, not_true_eq_false, not_false_eq_true, Int.natCast_zero, gt_iff_lt, ge_iff_le, Int.reduceGT, Int.reduceGE, Bool.false_and, Bool.and_false, Bool.true_and, Bool.and_true, e7]
def roomB (p : Prob) (s : Int) (i : Nat) : Bool := bit p.cells (i : Nat) && has s (regOf p.conf (i : Nat))
def room (p : Prob) (bk : List Int) (s : Int) : Nat → Int
  | 0 => 0
  | k + 1 => if roomB p s k = true then room p bk s k + (capOf p.conf (k : Nat) - bk.getD k 0) else room p bk s k
theorem cap_bd {c : Conf} (hc : ConfOk c) {i : Nat} (hi : i < c.cells.length) : 10 ≤ capOf c (i : Nat) ∧ capOf c (i : Nat) ≤ 40 := by
  have h3 := getD_at (l := c.cells) (i := i) (d := ⟨0, 0⟩) hi
  have h4 := hc.cs _ (List.mem_of_getElem? h3)
  unfold capOf
  simp only [Int.toNat_natCast]
  omega
def BkOk (p : Prob) (bk : List Int) : Prop := bk.length = p.conf.cells.length ∧ ∀ j : Nat, 0 ≤ bk.getD j 0 ∧ bk.getD j 0 ≤ 120
theorem booked_ok {p : Prob} (hc : ConfOk p.conf) (ps : List Plc) {k : Nat} (hk : k ≤ p.conf.tens.length) : BkOk p (booked p.conf ps k) := ⟨booked_len _ _ _, fun j => by
  have := booked_bd hc ps k hk j
  have := hc.t1
  omega⟩
theorem room_bd {p : Prob} (hc : ConfOk p.conf) {bk : List Int} (hb : BkOk p bk) (s : Int) : ∀ k : Nat, k ≤ p.conf.cells.length → -120 * (k : Int) ≤ room p bk s k ∧ room p bk s k ≤ 40 * k
  | 0, _ => by simp [room]
  | k + 1, hk => by
    have h := room_bd hc hb s k (by omega)
    have h1 := cap_bd hc (i := k) (by omega)
    have h2 := hb.2 k
    simp only [room]
    split <;> omega
def L21 (p : Prob) (bk : List Int) (s : Int) (k : Nat) (w : VSt) : Prop := gt .bad w.E 3 = .mp 3 1 0 0 ∧ hg w.H 3 = ⟨1, 0, true, [eQ p]⟩ ∧ gt .bad w.E 2 = dI s ∧ gt .bad w.E 7 = dL bk ∧ gt .bad w.E 8 = dI (room p bk s k) ∧
  gt .bad w.E 17 = .sl (p.conf.cells.map eC) ∧ gt .bad w.E 18 = dI (p.conf.cells.length : Nat) ∧ gt .bad w.E 19 = dI (k : Nat) ∧ k ≤ p.conf.cells.length
theorem room_l0 (p : Prob) (hc : ConfOk p.conf) (bk : List Int) (hbk : BkOk p bk) (s : Int) : ∀ k w, L21 p bk s k w → Ok (R PP shF 0 57 (.loop ir21_l0) w) (fun e w => e = .exit 0 ∧ gt .bad w.E 8 = dI (room p bk s p.conf.cells.length)) := by
  refine Ok_up p.conf.cells.length (L21 p bk s) fun k w hI => ?_
  obtain ⟨E, H⟩ := w
  obtain ⟨e3, h3, e2, e7, e8, e17, e18, e19, hk⟩ := hI
  simp only at e3 h3 e2 e7 e8 e17 e18 e19
  have hn7 := hc.c1
  have w1 : IntKind.wrap .i64 ((k : Int) + 1) = ((k + 1 : Nat) : Int) := by rw [w64 (by omega) (by omega)]; rfl
  by_cases hlt : k < p.conf.cells.length
  · have d1 : decide ((k : Int) < (p.conf.cells.length : Int)) = true := by simp; omega
    have q1 : (k : Int) < (p.conf.cells.length : Int) := by omega
    have q0 : (0 : Int) ≤ (k : Int) := by omega
    have g1 := getD_at (l := p.conf.cells) (i := k) (d := ⟨0, 0⟩) (by omega)
    have ht1 : (p.conf.cells.getD k ⟨0, 0⟩).cap = capOf p.conf (k : Nat) := rfl
    have g2 := getD_at (l := bk) (i := k) (d := 0) (by rw [hbk.1]; omega)
    have bl := hbk.1
    have B1 := FV_RegionOf p.conf hc.lens k
    have B2 := FV_usable p k (by omega) (by omega)
    have hr := hc.regOf (i := (k : Int)) (by omega) (by omega)
    have hr1 := hc.r1
    have nr : ¬ regOf p.conf (k : Nat) < 0 := by omega
    have r4 : regOf p.conf (k : Nat) < 4 := by omega
    have sd := shr_div s (regOf p.conf (k : Nat)) hr.1 (by omega)
    have hh : has s (regOf p.conf (k : Nat)) = ((s / 2 ^ (regOf p.conf (k : Nat)).toNat) % 2 == 1) := by
      unfold has bit
      rw [show (decide (0 ≤ regOf p.conf (k : Nat)) && decide (regOf p.conf (k : Nat) < 62)) = true by simp; omega]
      rfl
    cases hb : bit p.cells (k : Nat) with
    | true =>
      rw [hb] at B2
      cases hm : has s (regOf p.conf (k : Nat)) with
      | true =>
        have hu : room p bk s (k + 1) = room p bk s k + (capOf p.conf (k : Nat) - bk.getD k 0) := by simp only [room, roomB, hb, hm]; rfl
        have b1 := room_bd hc hbk s (k + 1) (by omega)
        have b2 := cap_bd hc (i := k) hlt
        have b3 := hbk.2 k
        have w2 : IntKind.wrap .i64 (capOf p.conf (k : Nat) - bk.getD k 0) = capOf p.conf (k : Nat) - bk.getD k 0 := w64 (by omega) (by omega)
        have w3 : IntKind.wrap .i64 (room p bk s k + (capOf p.conf (k : Nat) - bk.getD k 0)) = room p bk s (k + 1) := by rw [← hu]; exact w64 (by omega) (by omega)
        rw [hm] at hh
        simp -implicitDefEqProofs only [go_sem, ↓reduceIte, Nat.reduceEqDiff, Nat.reduceAdd, Nat.reduceSub, Nat.reduceMul, Nat.reduceLeDiff, Nat.reduceLT, Nat.reduceBEq, Nat.reduceBNe, reduceCtorEq, beq_self_eq_true, Int.toNat_natCast, List.length_map, List.length_nil, Int.reduceToNat, Int.reduceAdd, Int.reduceSub, Int.reduceMul, Int.reduceLT, Int.reduceLE, Int.reduceEq, Int.reduceBEq, Int.reduceNeg, decide_true, decide_false, Nat.le_max_left, Nat.le_max_right, ne_eq, not_true_eq_false, not_false_eq_true, Int.natCast_zero, gt_iff_lt, ge_iff_le, Int.reduceGT, Int.reduceGE, Bool.false_and, Bool.and_false, Bool.true_and, Bool.and_true, ir21_l0, eQ, eK, e3, h3, e2, e7, e8, e17, e18, e19, d1, w1, q0, q1, g1, g2, bl, vpS B1 rfl, vpS B2 rfl, hr.1, nr, r4, sd, and1, ← hh, ht1, w2, w3]
        refine .next hlt ⟨?_, ?_, ?_, ?_, ?_, ?_, ?_, ?_, by omega⟩ <;> simp -implicitDefEqProofs only [go_sem, ↓reduceIte, Nat.reduceEqDiff, Nat.reduceAdd, Nat.reduceSub, Nat.reduceMul, Nat.reduceLeDiff, Nat.reduceLT, Nat.reduceBEq, Nat.reduceBNe, reduceCtorEq, beq_self_eq_true, Int.toNat_natCast, List.length_map, List.length_nil, Int.reduceToNat, Int.reduceAdd, Int.reduceSub, Int.reduceMul, Int.reduceLT, Int.reduceLE, Int.reduceEq, Int.reduceBEq, Int.reduceNeg, decide_true, decide_false, Nat.le_max_left, Nat.le_max_right, ne_eq, not_true_eq_false, not_false_eq_true, Int.natCast_zero, gt_iff_lt, ge_iff_le, Int.reduceGT, Int.reduceGE, Bool.false_and, Bool.and_false, Bool.true_and, Bool.and_true, e3, h3, e2, e7, e17, e18, w1, eQ]
      | false =>
        have hu : room p bk s (k + 1) = room p bk s k := by simp only [room, roomB, hb, hm]; rfl
        rw [hm] at hh
        simp -implicitDefEqProofs only [go_sem, ↓reduceIte, Nat.reduceEqDiff, Nat.reduceAdd, Nat.reduceSub, Nat.reduceMul, Nat.reduceLeDiff, Nat.reduceLT, Nat.reduceBEq, Nat.reduceBNe, reduceCtorEq, beq_self_eq_true, Int.toNat_natCast, List.length_map, List.length_nil, Int.reduceToNat, Int.reduceAdd, Int.reduceSub, Int.reduceMul, Int.reduceLT, Int.reduceLE, Int.reduceEq, Int.reduceBEq, Int.reduceNeg, decide_true, decide_false, Nat.le_max_left, Nat.le_max_right, ne_eq, not_true_eq_false, not_false_eq_true, Int.natCast_zero, gt_iff_lt, ge_iff_le, Int.reduceGT, Int.reduceGE, Bool.false_and, Bool.and_false, Bool.true_and, Bool.and_true, ir21_l0, eQ, eK, e3, h3, e2, e7, e8, e17, e18, e19, d1, w1, q0, q1, g1, g2, bl, vpS B1 rfl, vpS B2 rfl, hr.1, nr, r4, sd, and1, ← hh, ht1]
        refine .next hlt ⟨?_, ?_, ?_, ?_, ?_, ?_, ?_, ?_, by omega⟩ <;> simp -implicitDefEqProofs only [go_sem, ↓reduceIte, Nat.reduceEqDiff, Nat.reduceAdd, Nat.reduceSub, Nat.reduceMul, Nat.reduceLeDiff, Nat.reduceLT, Nat.reduceBEq, Nat.reduceBNe, reduceCtorEq, beq_self_eq_true, Int.toNat_natCast, List.length_map, List.length_nil, Int.reduceToNat, Int.reduceAdd, Int.reduceSub, Int.reduceMul, Int.reduceLT, Int.reduceLE, Int.reduceEq, Int.reduceBEq, Int.reduceNeg, decide_true, decide_false, Nat.le_max_left, Nat.le_max_right, ne_eq, not_true_eq_false, not_false_eq_true, Int.natCast_zero, gt_iff_lt, ge_iff_le, Int.reduceGT, Int.reduceGE, Bool.false_and, Bool.and_false, Bool.true_and, Bool.and_true, e3, h3, e2, e7, e8, e17, e18, w1, eQ, hu]
    | false =>
      rw [hb] at B2
      have hu : room p bk s (k + 1) = room p bk s k := by simp only [room, roomB, hb]; rfl
      simp -implicitDefEqProofs only [go_sem, ↓reduceIte, Nat.reduceEqDiff, Nat.reduceAdd, Nat.reduceSub, Nat.reduceMul, Nat.reduceLeDiff, Nat.reduceLT, Nat.reduceBEq, Nat.reduceBNe, reduceCtorEq, beq_self_eq_true, Int.toNat_natCast, List.length_map, List.length_nil, Int.reduceToNat, Int.reduceAdd, Int.reduceSub, Int.reduceMul, Int.reduceLT, Int.reduceLE, Int.reduceEq, Int.reduceBEq, Int.reduceNeg, decide_true, decide_false, Nat.le_max_left, Nat.le_max_right, ne_eq, not_true_eq_false, not_false_eq_true, Int.natCast_zero, gt_iff_lt, ge_iff_le, Int.reduceGT, Int.reduceGE, Bool.false_and, Bool.and_false, Bool.true_and, Bool.and_true, ir21_l0, eQ, eK, e3, h3, e2, e7, e8, e17, e18, e19, d1, w1, q0, q1, g1, g2, bl, vpS B1 rfl, vpS B2 rfl, hr.1, nr, r4, sd, and1, ht1]
      refine .next hlt ⟨?_, ?_, ?_, ?_, ?_, ?_, ?_, ?_, by omega⟩ <;> simp -implicitDefEqProofs only [go_sem, ↓reduceIte, Nat.reduceEqDiff, Nat.reduceAdd, Nat.reduceSub, Nat.reduceMul, Nat.reduceLeDiff, Nat.reduceLT, Nat.reduceBEq, Nat.reduceBNe, reduceCtorEq, beq_self_eq_true, Int.toNat_natCast, List.length_map, List.length_nil, Int.reduceToNat, Int.reduceAdd, Int.reduceSub, Int.reduceMul, Int.reduceLT, Int.reduceLE, Int.reduceEq, Int.reduceBEq, Int.reduceNeg, decide_true, decide_false, Nat.le_max_left, Nat.le_max_right, ne_eq, not_true_eq_false, not_false_eq_true, Int.natCast_zero, gt_iff_lt, ge_iff_le, Int.reduceGT, Int.reduceGE, Bool.false_and, Bool.and_false, Bool.true_and, Bool.and_true, e3, h3, e2, e7, e8, e17, e18, w1, eQ, hu]
  · have : k = p.conf.cells.length := by omega
    subst this
    have d1 : decide ((p.conf.cells.length : Int) < (p.conf.cells.length : Int)) = false := by simp
    simp -implicitDefEqProofs only [go_sem, ↓reduceIte, Nat.reduceEqDiff, Nat.reduceAdd, Nat.reduceSub, Nat.reduceMul, Nat.reduceLeDiff, Nat.reduceLT, Nat.reduceBEq, Nat.reduceBNe, reduceCtorEq, beq_self_eq_true, Int.toNat_natCast, List.length_map, List.length_nil, Int.reduceToNat, Int.reduceAdd, Int.reduceSub, Int.reduceMul, Int.reduceLT, Int.reduceLE, Int.reduceEq, Int.reduceBEq, Int.reduceNeg, decide_true, decide_false, Nat.le_max_left, Nat.le_max_right, ne_eq, not_true_eq_false, not_false_eq_true, Int.natCast_zero, gt_iff_lt, ge_iff_le, Int.reduceGT, Int.reduceGE, Bool.false_and, Bool.and_false, Bool.true_and, Bool.and_true, ir21_l0, e18, e19, d1]
    exact .exit ⟨rfl, by simp -implicitDefEqProofs only [go_sem, ↓reduceIte, Nat.reduceEqDiff, Nat.reduceAdd, Nat.reduceSub, Nat.reduceMul, Nat.reduceLeDiff, Nat.reduceLT, Nat.reduceBEq, Nat.reduceBNe, reduceCtorEq, beq_self_eq_true, Int.toNat_natCast, List.length_map, List.length_nil, Int.reduceToNat, Int.reduceAdd, Int.reduceSub, Int.reduceMul, Int.reduceLT, Int.reduceLE, Int.reduceEq, Int.reduceBEq, Int.reduceNeg, decide_true, decide_false, Nat.le_max_left, Nat.le_max_right, ne_eq, not_true_eq_false, not_false_eq_true, Int.natCast_zero, gt_iff_lt, ge_iff_le, Int.reduceGT, Int.reduceGE, Bool.false_and, Bool.and_false, Bool.true_and, Bool.and_true, e8]⟩
theorem FV_Room (p : Prob) (hc : ConfOk p.conf) (ps : List Plc) (hp : ps.length = p.conf.tens.length) (s : Int) : FV PP shF 21 [.agg (eQ p), .sl (ps.map eP), dI s] = some (dI (room p (booked p.conf ps ps.length) s p.conf.cells.length)) := by
  have ht := hc.t1
  have B := FVF_Booked p hc ps (by omega)
  rw [show min ps.length p.conf.tens.length = ps.length by omega] at B
  refine FV_ok (F_ok PP21 rfl ⟨by simp [ir21], by simp⟩ ?_)
  simp -implicitDefEqProofs only [go_sem, ↓reduceIte, Nat.reduceEqDiff, Nat.reduceAdd, Nat.reduceSub, Nat.reduceMul, Nat.reduceLeDiff, Nat.reduceLT, Nat.reduceBEq, Nat.reduceBNe, reduceCtorEq, beq_self_eq_true, Int.toNat_natCast, List.length_map, List.length_nil, Int.reduceToNat, Int.reduceAdd, Int.reduceSub, Int.reduceMul, Int.reduceLT, Int.reduceLE, Int.reduceEq, Int.reduceBEq, Int.reduceNeg, decide_true, decide_false, Nat.le_max_left, Nat.le_max_right, ne_eq, not_true_eq_false, not_false_eq_true, Int.natCast_zero, gt_iff_lt, ge_iff_le, Int.reduceGT, Int.reduceGE, Bool.false_and, Bool.and_false, Bool.true_and, Bool.and_true, ir21, vpF B rfl]
  refine (room_l0 p hc _ (booked_ok hc ps (k := ps.length) (by omega)) s 0 _ ?_).mono ?_
  · refine ⟨?_, ?_, ?_, ?_, ?_, ?_, ?_, ?_, by omega⟩ <;> simp -implicitDefEqProofs only [go_sem, ↓reduceIte, Nat.reduceEqDiff, Nat.reduceAdd, Nat.reduceSub, Nat.reduceMul, Nat.reduceLeDiff, Nat.reduceLT, Nat.reduceBEq, Nat.reduceBNe, reduceCtorEq, beq_self_eq_true, Int.toNat_natCast, List.length_map, List.length_nil, Int.reduceToNat, Int.reduceAdd, Int.reduceSub, Int.reduceMul, Int.reduceLT, Int.reduceLE, Int.reduceEq, Int.reduceBEq, Int.reduceNeg, decide_true, decide_false, Nat.le_max_left, Nat.le_max_right, ne_eq, not_true_eq_false, not_false_eq_true, Int.natCast_zero, gt_iff_lt, ge_iff_le, Int.reduceGT, Int.reduceGE, Bool.false_and, Bool.and_false, Bool.true_and, Bool.and_true, eQ, room]
  rintro e ⟨E, H⟩ ⟨rfl, e8⟩
  simp only at e8
  simp -implicitDefEqProofs only [go_sem, ↓reduceIte, Nat.reduceEqDiff, Nat.reduceAdd, Nat.reduceSub, Nat.reduceMul, Nat.reduceLeDiff, Nat.reduceLT, Nat.reduceBEq, Nat.reduceBNe, reduceCtorEq, beq_self_eq_true, Int.toNat_natCast, List.length_map, List.length_nil, Int.reduceToNat, Int.reduceAdd, Int.reduceSub, Int.reduceMul, Int.reduceLT, Int.reduceLE, Int.reduceEq, Int.reduceBEq, Int.reduceNeg, decide_true, decide_false, Nat.le_max_left, Nat.le_max_right, ne_eq, not_true_eq_false, not_false_eq_true, Int.natCast_zero, gt_iff_lt, ge_iff_le, Int.reduceGT, Int.reduceGE, Bool.false_and, Bool.and_false, Bool.true_and, Bool.and_true, e8]
theorem FV_run (k : Nat) {g : Nat} (h : (vmach PP shF k g [] [] 0).map (·.1) = some (dB true)) : FV PP shF g [] = some (dB true) := by
  simp only [Option.map_eq_some_iff] at h
  obtain ⟨⟨d, H⟩, h1, h2⟩ := h
  simp only at h2; subst h2
  exact FV_B (F_of k h1)
theorem FV_awake18 : FV PP shF 12 [] = some (dB true) := FV_run 60 (by kernel_rfl)
theorem bit_all8 : ∀ a b : Fin 8, ∀ r : Fin 3, bit (orI .i64 ((a.val : Nat) : Int) ((b.val : Nat) : Int)) ((r.val : Nat) : Int) = (bit ((a.val : Nat) : Int) ((r.val : Nat) : Int) || bit ((b.val : Nat) : Int) ((r.val : Nat) : Int)) := by decide +kernel
theorem fin_of {n : Nat} {a : Int} (h0 : 0 ≤ a) (h1 : a < n) : ∃ x : Fin n, a = ((x.val : Nat) : Int) := ⟨⟨a.toNat, by omega⟩, by simp; omega⟩
theorem bit_or {a b r : Int} (ha : 0 ≤ a ∧ a < 8) (hb : 0 ≤ b ∧ b < 8) (hr : 0 ≤ r ∧ r < 3) : bit (orI .i64 a b) r = (bit a r || bit b r) := by
  obtain ⟨x, rfl⟩ := fin_of (n := 8) ha.1 ha.2
  obtain ⟨y, rfl⟩ := fin_of (n := 8) hb.1 hb.2
  obtain ⟨z, rfl⟩ := fin_of (n := 3) hr.1 hr.2
  exact bit_all8 x y z
theorem has_or {a b r : Int} (ha : 0 ≤ a ∧ a < 8) (hb : 0 ≤ b ∧ b < 8) (hr : 0 ≤ r ∧ r < 3) (h : has a r = true) : has (orI .i64 a b) r = true := by
  unfold has at h ⊢
  simp only [Bool.and_eq_true] at h ⊢
  refine ⟨h.1, ?_⟩
  rw [bit_or ha hb hr, h.2]; rfl
theorem subN_mono {x a b : Int} (ha : 0 ≤ a ∧ a < 8) (hb : 0 ≤ b ∧ b < 8) : ∀ m : Nat, m ≤ 3 → subN x a m = true → subN x (orI .i64 a b) m = true
  | 0, _, _ => rfl
  | m + 1, hm, h => by
    simp only [subN, Bool.and_eq_true, Bool.not_eq_true'] at h ⊢
    refine ⟨subN_mono ha hb m (by omega) h.1, ?_⟩
    have h2 := h.2
    cases h3 : has x (m : Nat) with
    | false => rfl
    | true =>
      rw [h3] at h2
      have h4 : has a (m : Nat) = true := by simpa using h2
      rw [has_or ha hb ⟨by omega, by omega⟩ h4]; rfl
theorem need_mono {p : Prob} (hc : ConfOk p.conf) (ps : List Plc) {a b : Int} (ha : 0 ≤ a ∧ a < 8) (hb : 0 ≤ b ∧ b < 8) : ∀ k : Nat, k ≤ p.conf.tens.length → need p ps a k ≤ need p ps (orI .i64 a b) k
  | 0, _ => by simp [need]
  | k + 1, hk => by
    have h := need_mono hc ps ha hb k (by omega)
    have ht := (ten_ok hc (k := k) (by omega)).l0
    have hr0 := hc.r0
    have hr1 := hc.r1
    have hm : needB p ps a k = true → needB p ps (orI .i64 a b) k = true := by
      intro hh
      unfold needB at hh ⊢
      have hbd := reach_bd hc (k : Nat) p.conf.cells.length (Nat.le_refl _)
      rw [show p.conf.regions = ((p.conf.regions.toNat : Nat) : Int) by omega] at hbd
      rw [← subN_eq (R := p.conf.regions.toNat) (by omega) hbd] at hh ⊢
      simp only [Bool.and_eq_true] at hh ⊢
      exact ⟨hh.1, subN_mono ha hb _ (by omega) hh.2⟩
    simp only [need]
    by_cases h1 : needB p ps a k = true
    · rw [if_pos h1, if_pos (hm h1)]; omega
    · rw [if_neg h1]; split <;> omega
theorem room_mono {p : Prob} (hc : ConfOk p.conf) {bk : List Int} (hbk : ∀ j : Nat, j < p.conf.cells.length → bk.getD j 0 ≤ capOf p.conf (j : Nat)) {a b : Int} (ha : 0 ≤ a ∧ a < 8) (hb : 0 ≤ b ∧ b < 8) : ∀ k : Nat, k ≤ p.conf.cells.length → 0 ≤ room p bk a k ∧ room p bk a k ≤ room p bk (orI .i64 a b) k
  | 0, _ => by simp [room]
  | k + 1, hk => by
    have h := room_mono hc hbk ha hb k (by omega)
    have h1 := hbk k (by omega)
    have hr := hc.regOf (i := (k : Int)) (by omega) (by omega)
    have hr1 := hc.r1
    have hm : roomB p a k = true → roomB p (orI .i64 a b) k = true := by
      intro hh
      unfold roomB at hh ⊢
      simp only [Bool.and_eq_true] at hh ⊢
      exact ⟨hh.1, has_or ha hb ⟨hr.1, by omega⟩ hh.2⟩
    simp only [room]
    by_cases h2 : roomB p a k = true
    · rw [if_pos h2, if_pos (hm h2)]; omega
    · rw [if_neg h2]; split <;> omega
def LG3 (p : Prob) (ps : List Plc) (bk : List Int) (a b : Int) (k : Nat) (w : VSt) : Prop := gt .bad w.E 3 = dI a ∧ gt .bad w.E 4 = dI b ∧ gt .bad w.E 11 = .mp 11 1 0 0 ∧ hg w.H 11 = ⟨1, 0, true, [eQ p]⟩ ∧ gt .bad w.E 12 = .sl (ps.map eP) ∧ gt .bad w.E 13 = dL bk ∧ gt .bad w.E 14 = dI (k : Nat) ∧ k ≤ p.conf.cells.length ∧ ∀ j : Nat, j < k → bk.getD j 0 ≤ capOf p.conf (j : Nat)
def QG3 (p : Prob) (ps : List Plc) (bk : List Int) (a b : Int) (e : Ex) (w : VSt) : Prop := (e = .ret ∧ gt .bad w.E 10 = dB true) ∨ (e = .exit 0 ∧ gt .bad w.E 3 = dI a ∧ gt .bad w.E 4 = dI b ∧ gt .bad w.E 11 = .mp 11 1 0 0 ∧ hg w.H 11 = ⟨1, 0, true, [eQ p]⟩ ∧ gt .bad w.E 12 = .sl (ps.map eP) ∧ ∀ j : Nat, j < p.conf.cells.length → bk.getD j 0 ≤ capOf p.conf (j : Nat))
theorem grows_l0 (p : Prob) (hc : ConfOk p.conf) (ps : List Plc) (bk : List Int) (bl : bk.length = p.conf.cells.length) (a b : Int) : ∀ k w, LG3 p ps bk a b k w → Ok (R PP shF 0 105 (.loop ir3_l0) w) (QG3 p ps bk a b) := by
  refine Ok_up p.conf.cells.length (LG3 p ps bk a b) fun k w hI => ?_
  obtain ⟨E, H⟩ := w
  obtain ⟨e3, e4, e11, h11, e12, e13, e14, hk, hle⟩ := hI
  simp only at e3 e4 e11 h11 e12 e13 e14
  have hn7 := hc.c1
  have w1 : IntKind.wrap .i64 ((k : Int) + 1) = ((k + 1 : Nat) : Int) := by rw [w64 (by omega) (by omega)]; rfl
  by_cases hlt : k < p.conf.cells.length
  · have d1 : decide ((k : Int) < (p.conf.cells.length : Int)) = true := by simp; omega
    have q1 : (k : Int) < (p.conf.cells.length : Int) := by omega
    have q0 : (0 : Int) ≤ (k : Int) := by omega
    have g1 := getD_at (l := p.conf.cells) (i := k) (d := ⟨0, 0⟩) (by omega)
    have ht1 : (p.conf.cells.getD k ⟨0, 0⟩).cap = capOf p.conf (k : Nat) := rfl
    have g2 := getD_at (l := bk) (i := k) (d := 0) (by omega)
    by_cases hx : bk.getD k 0 ≤ capOf p.conf (k : Nat)
    · have d2 : decide (capOf p.conf (k : Nat) < bk.getD k 0) = false := by simp only [decide_eq_false_iff_not]; omega
      simp -implicitDefEqProofs only [go_sem, ↓reduceIte, Nat.reduceEqDiff, Nat.reduceAdd, Nat.reduceSub, Nat.reduceMul, Nat.reduceLeDiff, Nat.reduceLT, Nat.reduceBEq, Nat.reduceBNe, reduceCtorEq, beq_self_eq_true, Int.toNat_natCast, List.length_map, List.length_nil, Int.reduceToNat, Int.reduceAdd, Int.reduceSub, Int.reduceMul, Int.reduceLT, Int.reduceLE, Int.reduceEq, Int.reduceBEq, Int.reduceNeg, decide_true, decide_false, Nat.le_max_left, Nat.le_max_right, ne_eq, not_true_eq_false, not_false_eq_true, Int.natCast_zero, gt_iff_lt, ge_iff_le, Int.reduceGT, Int.reduceGE, Bool.false_and, Bool.and_false, Bool.true_and, Bool.and_true, ir3_l0, eQ, eK, e11, h11, e13, e14, bl, d1, w1, q0, q1, g1, g2, ht1, d2]
      refine .next hlt ⟨?_, ?_, ?_, ?_, ?_, ?_, ?_, by omega, fun j hj => ?_⟩ <;> (try simp -implicitDefEqProofs only [go_sem, ↓reduceIte, Nat.reduceEqDiff, Nat.reduceAdd, Nat.reduceSub, Nat.reduceMul, Nat.reduceLeDiff, Nat.reduceLT, Nat.reduceBEq, Nat.reduceBNe, reduceCtorEq, beq_self_eq_true, Int.toNat_natCast, List.length_map, List.length_nil, Int.reduceToNat, Int.reduceAdd, Int.reduceSub, Int.reduceMul, Int.reduceLT, Int.reduceLE, Int.reduceEq, Int.reduceBEq, Int.reduceNeg, decide_true, decide_false, Nat.le_max_left, Nat.le_max_right, ne_eq, not_true_eq_false, not_false_eq_true, Int.natCast_zero, gt_iff_lt, ge_iff_le, Int.reduceGT, Int.reduceGE, Bool.false_and, Bool.and_false, Bool.true_and, Bool.and_true, e3, e4, e11, h11, e12, e13, w1, eQ])
      by_cases hjk : j = k
      · rw [hjk]; exact hx
      · exact hle j (by omega)
    · have d2 : decide (capOf p.conf (k : Nat) < bk.getD k 0) = true := by simp only [decide_eq_true_eq]; omega
      simp -implicitDefEqProofs only [go_sem, ↓reduceIte, Nat.reduceEqDiff, Nat.reduceAdd, Nat.reduceSub, Nat.reduceMul, Nat.reduceLeDiff, Nat.reduceLT, Nat.reduceBEq, Nat.reduceBNe, reduceCtorEq, beq_self_eq_true, Int.toNat_natCast, List.length_map, List.length_nil, Int.reduceToNat, Int.reduceAdd, Int.reduceSub, Int.reduceMul, Int.reduceLT, Int.reduceLE, Int.reduceEq, Int.reduceBEq, Int.reduceNeg, decide_true, decide_false, Nat.le_max_left, Nat.le_max_right, ne_eq, not_true_eq_false, not_false_eq_true, Int.natCast_zero, gt_iff_lt, ge_iff_le, Int.reduceGT, Int.reduceGE, Bool.false_and, Bool.and_false, Bool.true_and, Bool.and_true, ir3_l0, eQ, eK, e11, h11, e13, e14, bl, d1, w1, q0, q1, g1, g2, ht1, d2, vpS FV_awake18 rfl]
      refine .ret (.inl ⟨rfl, ?_⟩)
      simp -implicitDefEqProofs only [go_sem, ↓reduceIte, Nat.reduceEqDiff, Nat.reduceAdd, Nat.reduceSub, Nat.reduceMul, Nat.reduceLeDiff, Nat.reduceLT, Nat.reduceBEq, Nat.reduceBNe, reduceCtorEq, beq_self_eq_true, Int.toNat_natCast, List.length_map, List.length_nil, Int.reduceToNat, Int.reduceAdd, Int.reduceSub, Int.reduceMul, Int.reduceLT, Int.reduceLE, Int.reduceEq, Int.reduceBEq, Int.reduceNeg, decide_true, decide_false, Nat.le_max_left, Nat.le_max_right, ne_eq, not_true_eq_false, not_false_eq_true, Int.natCast_zero, gt_iff_lt, ge_iff_le, Int.reduceGT, Int.reduceGE, Bool.false_and, Bool.and_false, Bool.true_and, Bool.and_true, ]
  · have : k = p.conf.cells.length := by omega
    subst this
    have d1 : decide ((p.conf.cells.length : Int) < (p.conf.cells.length : Int)) = false := by simp
    simp -implicitDefEqProofs only [go_sem, ↓reduceIte, Nat.reduceEqDiff, Nat.reduceAdd, Nat.reduceSub, Nat.reduceMul, Nat.reduceLeDiff, Nat.reduceLT, Nat.reduceBEq, Nat.reduceBNe, reduceCtorEq, beq_self_eq_true, Int.toNat_natCast, List.length_map, List.length_nil, Int.reduceToNat, Int.reduceAdd, Int.reduceSub, Int.reduceMul, Int.reduceLT, Int.reduceLE, Int.reduceEq, Int.reduceBEq, Int.reduceNeg, decide_true, decide_false, Nat.le_max_left, Nat.le_max_right, ne_eq, not_true_eq_false, not_false_eq_true, Int.natCast_zero, gt_iff_lt, ge_iff_le, Int.reduceGT, Int.reduceGE, Bool.false_and, Bool.and_false, Bool.true_and, Bool.and_true, ir3_l0, e13, e14, bl, d1]
    refine .exit (.inr ⟨rfl, ?_, ?_, ?_, ?_, ?_, hle⟩) <;> simp -implicitDefEqProofs only [go_sem, ↓reduceIte, Nat.reduceEqDiff, Nat.reduceAdd, Nat.reduceSub, Nat.reduceMul, Nat.reduceLeDiff, Nat.reduceLT, Nat.reduceBEq, Nat.reduceBNe, reduceCtorEq, beq_self_eq_true, Int.toNat_natCast, List.length_map, List.length_nil, Int.reduceToNat, Int.reduceAdd, Int.reduceSub, Int.reduceMul, Int.reduceLT, Int.reduceLE, Int.reduceEq, Int.reduceBEq, Int.reduceNeg, decide_true, decide_false, Nat.le_max_left, Nat.le_max_right, ne_eq, not_true_eq_false, not_false_eq_true, Int.natCast_zero, gt_iff_lt, ge_iff_le, Int.reduceGT, Int.reduceGE, Bool.false_and, Bool.and_false, Bool.true_and, Bool.and_true, e3, e4, e11, h11, e12, eQ]
theorem law_BoundGrows (l : List Int) (hl : I64s l) (m : List Int) (hm : I64s m) (cells : Int) (h1 : I64 cells) (a : Int) (h2 : I64 a) (b : Int) (h3 : I64 b) : OkF (F PP shF 3 [dL l, dL m, dI cells, dI a, dI b] [] 0) (fun d _ => d = dB true) := by
  refine F_ok PP3 rfl ⟨by simp [ir3], by simp⟩ ?_
  by_cases hlen : l.length ≤ 200
  · have L := FV_Light l
    rw [decide_eq_true hlen] at L
    by_cases hlen2 : m.length ≤ 200
    · have L2 := FV_Light m
      rw [decide_eq_true hlen2] at L2
      obtain ⟨p, hc, hcells, _, hP⟩ := FV_Problem l hl cells h1 false
      obtain ⟨ps, hps1, hps2, hQ⟩ := FVF_Places m hm p.conf hc
      have M1 := FV_Mod a 8 h2 (by decide) (by decide)
      have M2 := FV_Mod b 8 h3 (by decide) (by decide)
      have ha : 0 ≤ a % 8 ∧ a % 8 < 8 := by omega
      have hb : 0 ≤ b % 8 ∧ b % 8 < 8 := by omega
      have ht := hc.t1
      have B := FVF_Booked p hc ps (by omega)
      rw [show min ps.length p.conf.tens.length = ps.length by omega] at B
      have bl := booked_len p.conf ps ps.length
      have n1 : ((p.conf.cells.length : Int) != (p.conf.cells.length : Int)) = false := by simp
      have IH := grows_l0 p hc ps (booked p.conf ps ps.length) bl a b 0
      simp -implicitDefEqProofs only [go_sem, ↓reduceIte, Nat.reduceEqDiff, Nat.reduceAdd, Nat.reduceSub, Nat.reduceMul, Nat.reduceLeDiff, Nat.reduceLT, Nat.reduceBEq, Nat.reduceBNe, reduceCtorEq, beq_self_eq_true, Int.toNat_natCast, List.length_map, List.length_nil, Int.reduceToNat, Int.reduceAdd, Int.reduceSub, Int.reduceMul, Int.reduceLT, Int.reduceLE, Int.reduceEq, Int.reduceBEq, Int.reduceNeg, decide_true, decide_false, Nat.le_max_left, Nat.le_max_right, ne_eq, not_true_eq_false, not_false_eq_true, Int.natCast_zero, gt_iff_lt, ge_iff_le, Int.reduceGT, Int.reduceGE, Bool.false_and, Bool.and_false, Bool.true_and, Bool.and_true, ir3, vpS L rfl, vpS L2 rfl, vpL hP rfl, eQ, eK, vpF hQ rfl, vpF B rfl, bl, n1]
      refine (IH _ ⟨?_, ?_, ?_, ?_, ?_, ?_, ?_, by omega, fun j hj => by omega⟩).mono ?_ <;> (try simp -implicitDefEqProofs only [go_sem, ↓reduceIte, Nat.reduceEqDiff, Nat.reduceAdd, Nat.reduceSub, Nat.reduceMul, Nat.reduceLeDiff, Nat.reduceLT, Nat.reduceBEq, Nat.reduceBNe, reduceCtorEq, beq_self_eq_true, Int.toNat_natCast, List.length_map, List.length_nil, Int.reduceToNat, Int.reduceAdd, Int.reduceSub, Int.reduceMul, Int.reduceLT, Int.reduceLE, Int.reduceEq, Int.reduceBEq, Int.reduceNeg, decide_true, decide_false, Nat.le_max_left, Nat.le_max_right, ne_eq, not_true_eq_false, not_false_eq_true, Int.natCast_zero, gt_iff_lt, ge_iff_le, Int.reduceGT, Int.reduceGE, Bool.false_and, Bool.and_false, Bool.true_and, Bool.and_true, eQ, eK])
      rintro e ⟨E, H⟩ (⟨rfl, e10⟩ | ⟨rfl, e3, e4, e11, h11, e12, hle⟩)
      · simp only at e10
        simp -implicitDefEqProofs only [go_sem, ↓reduceIte, Nat.reduceEqDiff, Nat.reduceAdd, Nat.reduceSub, Nat.reduceMul, Nat.reduceLeDiff, Nat.reduceLT, Nat.reduceBEq, Nat.reduceBNe, reduceCtorEq, beq_self_eq_true, Int.toNat_natCast, List.length_map, List.length_nil, Int.reduceToNat, Int.reduceAdd, Int.reduceSub, Int.reduceMul, Int.reduceLT, Int.reduceLE, Int.reduceEq, Int.reduceBEq, Int.reduceNeg, decide_true, decide_false, Nat.le_max_left, Nat.le_max_right, ne_eq, not_true_eq_false, not_false_eq_true, Int.natCast_zero, gt_iff_lt, ge_iff_le, Int.reduceGT, Int.reduceGE, Bool.false_and, Bool.and_false, Bool.true_and, Bool.and_true, e10]
      · simp only at e3 e4 e11 h11 e12
        generalize a % 8 = x at *
        generalize b % 8 = y at *
        have A1 := FV_Need p hc ps hps1 x
        have A2 := FV_Need p hc ps hps1 (orI .i64 x y)
        have A3 := FV_Room p hc ps hps1 x
        have A4 := FV_Room p hc ps hps1 (orI .i64 x y)
        have r1 := need_mono hc ps ha hb ps.length (by omega)
        have r2 := need_bd hc ps x ps.length (by omega)
        have r3 := room_mono hc hle ha hb p.conf.cells.length (Nat.le_refl _)
        have s1 := r2.1
        have s2 := r3.1
        have s3 := r3.2
        simp -implicitDefEqProofs only [go_sem, ↓reduceIte, Nat.reduceEqDiff, Nat.reduceAdd, Nat.reduceSub, Nat.reduceMul, Nat.reduceLeDiff, Nat.reduceLT, Nat.reduceBEq, Nat.reduceBNe, reduceCtorEq, beq_self_eq_true, Int.toNat_natCast, List.length_map, List.length_nil, Int.reduceToNat, Int.reduceAdd, Int.reduceSub, Int.reduceMul, Int.reduceLT, Int.reduceLE, Int.reduceEq, Int.reduceBEq, Int.reduceNeg, decide_true, decide_false, Nat.le_max_left, Nat.le_max_right, ne_eq, not_true_eq_false, not_false_eq_true, Int.natCast_zero, gt_iff_lt, ge_iff_le, Int.reduceGT, Int.reduceGE, Bool.false_and, Bool.and_false, Bool.true_and, Bool.and_true, eQ, eK, e3, e4, e11, h11, e12, vpS M1 rfl, vpS M2 rfl, vpS FV_awake18 rfl, vpS A1 rfl, vpS A2 rfl, vpS A3 rfl, vpS A4 rfl, r1, s1, s2, s3]
    · have L2 := FV_Light m
      rw [decide_eq_false hlen2] at L2
      simp -implicitDefEqProofs only [go_sem, ↓reduceIte, Nat.reduceEqDiff, Nat.reduceAdd, Nat.reduceSub, Nat.reduceMul, Nat.reduceLeDiff, Nat.reduceLT, Nat.reduceBEq, Nat.reduceBNe, reduceCtorEq, beq_self_eq_true, Int.toNat_natCast, List.length_map, List.length_nil, Int.reduceToNat, Int.reduceAdd, Int.reduceSub, Int.reduceMul, Int.reduceLT, Int.reduceLE, Int.reduceEq, Int.reduceBEq, Int.reduceNeg, decide_true, decide_false, Nat.le_max_left, Nat.le_max_right, ne_eq, not_true_eq_false, not_false_eq_true, Int.natCast_zero, gt_iff_lt, ge_iff_le, Int.reduceGT, Int.reduceGE, Bool.false_and, Bool.and_false, Bool.true_and, Bool.and_true, ir3, vpS L rfl, vpS L2 rfl, vpS FV_awake18 rfl]
  · have L := FV_Light l
    rw [decide_eq_false hlen] at L
    simp -implicitDefEqProofs only [go_sem, ↓reduceIte, Nat.reduceEqDiff, Nat.reduceAdd, Nat.reduceSub, Nat.reduceMul, Nat.reduceLeDiff, Nat.reduceLT, Nat.reduceBEq, Nat.reduceBNe, reduceCtorEq, beq_self_eq_true, Int.toNat_natCast, List.length_map, List.length_nil, Int.reduceToNat, Int.reduceAdd, Int.reduceSub, Int.reduceMul, Int.reduceLT, Int.reduceLE, Int.reduceEq, Int.reduceBEq, Int.reduceNeg, decide_true, decide_false, Nat.le_max_left, Nat.le_max_right, ne_eq, not_true_eq_false, not_false_eq_true, Int.natCast_zero, gt_iff_lt, ge_iff_le, Int.reduceGT, Int.reduceGE, Bool.false_and, Bool.and_false, Bool.true_and, Bool.and_true, ir3, vpS L rfl, vpS FV_awake18 rfl]
end Go.Proofs.Cp
