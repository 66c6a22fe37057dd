/- What the functions answer (part 1). -/
import Derived.Test.YtjgijnimbnielaaFn0
set_option linter.unusedSimpArgs false
set_option linter.unusedVariables false
set_option maxRecDepth 100000
namespace Go.Proofs.Cp
open Go
theorem ins_len {p : Int → Int → Bool} {x : Int} : ∀ {s : List Int}, (ins p x s).length = s.length + 1
  | [] => rfl
  | y :: s => by
    simp only [ins]
    split
    · simp only [List.length_cons, ins_len (s := s)]
    · rfl
theorem ins_sorted {p : Int → Int → Bool} (hp : STO p) {x : Int} : ∀ {s : List Int}, s.Pairwise (fun a b => p a b = true) → x ∉ s → (ins p x s).Pairwise (fun a b => p a b = true)
  | [], _, _ => by simp [ins]
  | y :: s, h, hx => by
    rw [List.pairwise_cons] at h
    simp only [ins]
    split
    · rename_i hy
      rw [List.pairwise_cons]
      refine ⟨fun z hz => ?_, ins_sorted hp h.2 (fun hh => hx (by simp [hh]))⟩
      rcases ins_mem.1 hz with rfl | hz
      · exact hy
      · exact h.1 z hz
    · rename_i hy
      have hxy : p x y = true := hp.tot y x (fun e => hx (by simp [e])) (by simpa using hy)
      rw [List.pairwise_cons]
      refine ⟨fun z hz => ?_, List.pairwise_cons.2 h⟩
      rcases List.mem_cons.1 hz with rfl | hz
      · exact hxy
      · exact hp.trans _ _ _ hxy (h.1 z hz)
theorem insOne_eq {p : Int → Int → Bool} (hp : STO p) (x : Int) : ∀ (n : Nat) (s rest : List Int), s.length = n → s.Pairwise (fun a b => p a b = true) → x ∉ s → insOne p (s ++ x :: rest) n = ins p x s ++ rest
  | 0, s, rest, hn, _, _ => by
    have : s = [] := List.length_eq_zero_iff.1 hn
    subst this
    rfl
  | n + 1, s, rest, hn, hs, hx => by
    obtain ⟨s', y, rfl⟩ : ∃ s' y, s = s' ++ [y] := ⟨s.dropLast, s.getLast (by intro h; simp [h] at hn), (List.dropLast_concat_getLast _).symm⟩
    have hl : s'.length = n := by simpa using hn
    rw [List.pairwise_append] at hs
    have hne : y ≠ x := fun e => hx (by simp [e])
    have g1 : (s' ++ [y] ++ x :: rest).getD (n + 1) 0 = x := by
      rw [List.getD_eq_getElem?_getD, List.getElem?_append_right (by simp; omega)]
      simp [hl]
    have g0 : (s' ++ [y] ++ x :: rest).getD n 0 = y := by
      rw [List.getD_eq_getElem?_getD, List.append_assoc, List.getElem?_append_right (by omega)]
      simp [hl]
    simp only [insOne]
    rw [g1, g0]
    cases hp1 : p x y with
    | true =>
      rw [if_pos rfl]
      have hsw : swapAt (s' ++ [y] ++ x :: rest) n = s' ++ x :: (y :: rest) := by
        unfold swapAt
        rw [g1, g0]
        subst hl
        rw [List.append_assoc, List.set_append_right _ _ (by omega), List.set_append_right _ _ (by omega)]
        simp
      rw [hsw, insOne_eq hp x n s' (y :: rest) hl hs.1 (fun h => hx (by simp [h])), ins_app_no (hp.asy _ _ hp1)]
      simp
    | false =>
      rw [if_neg (by simp), ins_all]
      · simp
      · intro z hz
        have hyx := hp.tot x y (Ne.symm hne) hp1
        rcases List.mem_append.1 hz with hz | hz
        · exact hp.trans _ _ _ (hs.2.2 z hz y (by simp)) hyx
        · have : z = y := by simpa using hz
          rw [this]; exact hyx
/-- The reference's list of the first tenants. -/
def rOrd (p : Int → Int → Bool) : Nat → List Int
  | 0 => []
  | k + 1 => ins p (k : Int) (rOrd p k)
theorem rOrd_len (p : Int → Int → Bool) : ∀ k, (rOrd p k).length = k
  | 0 => rfl
  | k + 1 => by simp only [rOrd, ins_len, rOrd_len p k]
theorem rOrd_mem {p : Int → Int → Bool} {z : Int} : ∀ {k : Nat}, z ∈ rOrd p k ↔ 0 ≤ z ∧ z < k
  | 0 => by simp [rOrd]
  | k + 1 => by simp only [rOrd, ins_mem, rOrd_mem (k := k)]; omega
theorem rOrd_sorted {p : Int → Int → Bool} (hp : STO p) : ∀ k, (rOrd p k).Pairwise (fun a b => p a b = true)
  | 0 => List.Pairwise.nil
  | k + 1 => ins_sorted hp (rOrd_sorted hp k) (fun h => by have := rOrd_mem.1 h; omega)
theorem insAll_rOrd {p : Int → Int → Bool} (hp : STO p) (n : Nat) : ∀ i, i ≤ n → insAll p (upTo0 n) i = rOrd p i ++ (upTo0 n).drop i
  | 0, _ => by simp [insAll, rOrd]
  | i + 1, h => by
    simp only [insAll, rOrd]
    rw [insAll_rOrd hp n i (by omega)]
    have hd : (upTo0 n).drop i = (i : Int) :: (upTo0 n).drop (i + 1) := by
      rw [List.drop_eq_getElem_cons (by rw [upTo0_len]; omega)]
      simp [upTo0]
    rw [hd, insOne_eq hp (i : Int) i _ _ (rOrd_len p i) (rOrd_sorted hp i) (fun h => by have := rOrd_mem.1 h; omega)]
/-- Who comes before whom. -/
def bef (c : Conf) (a b : Int) : Bool := if (ten c a).prio ≠ (ten c b).prio then decide ((ten c a).prio > (ten c b).prio) else if (ten c a).load ≠ (ten c b).load then decide ((ten c a).load > (ten c b).load) else decide (a < b)
theorem pC_bef (c : Conf) (a b : Int) : pC c a b = bef c a b := by
  unfold pC bef ordC or3 cmpI
  rw [Bool.eq_iff_iff, decide_eq_true_iff]
  generalize (ten c a).prio = x1
  generalize (ten c b).prio = x2
  generalize (ten c a).load = y1
  generalize (ten c b).load = y2
  by_cases h1 : x1 = x2
  · subst h1
    by_cases h2 : y1 = y2
    · subst h2
      simp
      repeat' split
      all_goals omega
    · simp [h2]
      repeat' split
      all_goals first | omega | simp_all <;> omega
  · simp [h1]
    repeat' split
    all_goals first | omega | simp_all <;> omega
theorem bef_sto (c : Conf) : STO (bef c) := by
  constructor
  · intro a b h
    unfold bef at h ⊢
    generalize (ten c a).prio = x1 at *
    generalize (ten c b).prio = x2 at *
    generalize (ten c a).load = y1 at *
    generalize (ten c b).load = y2 at *
    repeat' split at h
    all_goals repeat' split
    all_goals simp at *
    all_goals omega
  · intro a b hne h
    unfold bef at h ⊢
    generalize (ten c a).prio = x1 at *
    generalize (ten c b).prio = x2 at *
    generalize (ten c a).load = y1 at *
    generalize (ten c b).load = y2 at *
    repeat' split at h
    all_goals repeat' split
    all_goals simp at *
    all_goals omega
  · intro a b d h h'
    unfold bef at h h' ⊢
    generalize (ten c a).prio = x1 at *
    generalize (ten c b).prio = x2 at *
    generalize (ten c d).prio = x3 at *
    generalize (ten c a).load = y1 at *
    generalize (ten c b).load = y2 at *
    generalize (ten c d).load = y3 at *
    repeat' split at h
    all_goals repeat' split at h'
    all_goals repeat' split
    all_goals simp at *
    all_goals omega
theorem orderL_eq (c : Conf) : orderL c = rOrd (bef c) c.tens.length := by
  have hp : pC c = bef c := funext fun a => funext fun b => pC_bef c a b
  unfold orderL
  rw [hp, insAll_rOrd (bef_sto c) _ _ (Nat.le_refl _), List.drop_of_length_le (by rw [upTo0_len]; exact Nat.le_refl _), List.append_nil]
theorem FV_before (c : Conf) (a b : Int) (ha : 0 ≤ a ∧ a < c.tens.length) (hb : 0 ≤ b ∧ b < c.tens.length) : FV PP shF 150 [.agg (eK c), dI a, dI b] = some (dB (bef c a b)) := by
  have ga : c.tens[a.toNat]? = some (ten c a) := getD_at (l := c.tens) (i := a.toNat) (d := ⟨0, 0, 0, 0, 0, 0, false⟩) (by omega)
  have gb : c.tens[b.toNat]? = some (ten c b) := getD_at (l := c.tens) (i := b.toNat) (d := ⟨0, 0, 0, 0, 0, 0, false⟩) (by omega)
  refine FV_ok (F_ok PP150 rfl ⟨by simp [ir150], by simp⟩ ?_)
  unfold bef
  by_cases h1 : (ten c a).prio = (ten c b).prio
  · have d1 : ((ten c b).prio != (ten c b).prio) = false := by simp
    by_cases h2 : (ten c a).load = (ten c b).load
    · have d2 : ((ten c b).load != (ten c b).load) = false := by simp
      simp -implicitDefEqProofs only [go_sem, ↓reduceIte, Nat.reduceEqDiff, Nat.reduceAdd, Nat.reduceSub, Nat.reduceMul, Nat.reduceLeDiff, Nat.reduceLT, Nat.reduceBEq, Nat.reduceBNe, reduceCtorEq, beq_self_eq_true, Int.toNat_natCast, List.length_map, List.length_nil, Int.reduceToNat, Int.reduceAdd, Int.reduceSub, Int.reduceMul, Int.reduceLT, Int.reduceLE, Int.reduceEq, Int.reduceBEq, Int.reduceNeg, decide_true, decide_false, Nat.le_max_left, Nat.le_max_right, ne_eq, not_true_eq_false, not_false_eq_true, Int.natCast_zero, gt_iff_lt, ge_iff_le, Int.reduceGT, Int.reduceGE, Bool.false_and, Bool.and_false, Bool.true_and, Bool.and_true, ir150, eK, ha, hb, ga, gb, h1, h2, d1, d2]
    · have d2 : ((ten c a).load != (ten c b).load) = true := by simpa using h2
      simp -implicitDefEqProofs only [go_sem, ↓reduceIte, Nat.reduceEqDiff, Nat.reduceAdd, Nat.reduceSub, Nat.reduceMul, Nat.reduceLeDiff, Nat.reduceLT, Nat.reduceBEq, Nat.reduceBNe, reduceCtorEq, beq_self_eq_true, Int.toNat_natCast, List.length_map, List.length_nil, Int.reduceToNat, Int.reduceAdd, Int.reduceSub, Int.reduceMul, Int.reduceLT, Int.reduceLE, Int.reduceEq, Int.reduceBEq, Int.reduceNeg, decide_true, decide_false, Nat.le_max_left, Nat.le_max_right, ne_eq, not_true_eq_false, not_false_eq_true, Int.natCast_zero, gt_iff_lt, ge_iff_le, Int.reduceGT, Int.reduceGE, Bool.false_and, Bool.and_false, Bool.true_and, Bool.and_true, ir150, eK, ha, hb, ga, gb, h1, h2, d1, d2]
  · have d1 : ((ten c a).prio != (ten c b).prio) = true := by simpa using h1
    simp -implicitDefEqProofs only [go_sem, ↓reduceIte, Nat.reduceEqDiff, Nat.reduceAdd, Nat.reduceSub, Nat.reduceMul, Nat.reduceLeDiff, Nat.reduceLT, Nat.reduceBEq, Nat.reduceBNe, reduceCtorEq, beq_self_eq_true, Int.toNat_natCast, List.length_map, List.length_nil, Int.reduceToNat, Int.reduceAdd, Int.reduceSub, Int.reduceMul, Int.reduceLT, Int.reduceLE, Int.reduceEq, Int.reduceBEq, Int.reduceNeg, decide_true, decide_false, Nat.le_max_left, Nat.le_max_right, ne_eq, not_true_eq_false, not_false_eq_true, Int.natCast_zero, gt_iff_lt, ge_iff_le, Int.reduceGT, Int.reduceGE, Bool.false_and, Bool.and_false, Bool.true_and, Bool.and_true, ir150, eK, ha, hb, ga, gb, h1, d1]
def posI (p : Int → Int → Bool) (x : Int) : List Int → Nat
  | [] => 0
  | y :: s => if p y x = true then posI p x s + 1 else 0
theorem posI_le (p : Int → Int → Bool) (x : Int) : ∀ s, posI p x s ≤ s.length
  | [] => Nat.le_refl _
  | y :: s => by simp only [posI]; split <;> simp; exact posI_le p x s
theorem ins_pos (p : Int → Int → Bool) (x : Int) : ∀ s, ins p x s = s.take (posI p x s) ++ x :: s.drop (posI p x s)
  | [] => rfl
  | y :: s => by
    simp only [posI, ins]
    split
    · rw [ins_pos p x s]; rfl
    · rfl
theorem posI_lt (p : Int → Int → Bool) (x : Int) : ∀ (s : List Int) (j : Nat), j < posI p x s → j < s.length ∧ p (s.getD j 0) x = true
  | [], j, h => by simp [posI] at h
  | y :: s, j, h => by
    simp only [posI] at h
    split at h
    · rename_i hy
      cases j with
      | zero => exact ⟨by simp, hy⟩
      | succ j =>
        have := posI_lt p x s j (by omega)
        exact ⟨by simp; exact this.1, by simpa using this.2⟩
    · omega
theorem posI_at (p : Int → Int → Bool) (x : Int) : ∀ (s : List Int), posI p x s < s.length → p (s.getD (posI p x s) 0) x = false
  | [], h => by simp at h
  | y :: s, h => by
    simp only [posI] at h ⊢
    split
    · rename_i hy
      rw [if_pos hy] at h
      simpa using posI_at p x s (by simpa using h)
    · rename_i hy; simpa using hy
theorem ins_copy (p : Int → Int → Bool) (x : Int) (s : List Int) : ((s ++ [0]).take (posI p x s + 1) ++ (((s ++ [0]).drop (posI p x s)).take (s.length - posI p x s))).set (posI p x s) x = ins p x s := by
  have h := posI_le p x s
  rw [ins_pos]
  generalize posI p x s = q at *
  apply List.ext_getElem?
  intro i
  by_cases hi : i = q
  · subst hi
    rw [List.getElem?_set_self (by simp; omega), List.getElem?_append_right (by simp; omega)]
    simp [Nat.min_eq_left h]
  · rw [List.getElem?_set_ne (by omega)]
    by_cases h1 : i < q
    · rw [List.getElem?_append_left (by simp; omega), List.getElem?_append_left (by simp; omega), List.getElem?_take, List.getElem?_take, if_pos (by omega), if_pos h1, List.getElem?_append_left (by omega)]
    · rw [List.getElem?_append_right (by simp; omega), List.getElem?_append_right (by simp; omega)]
      have e1 : i - (List.take (q + 1) (s ++ [0])).length = i - q - 1 := by simp; omega
      have e2 : i - (List.take q s).length = (i - q - 1) + 1 := by simp; omega
      rw [e1, e2, List.getElem?_cons_succ, List.getElem?_take, List.getElem?_drop, List.getElem?_drop]
      by_cases h2 : i - q - 1 < s.length - q
      · rw [if_pos h2, List.getElem?_append_left (by omega)]
      · rw [if_neg h2, List.getElem?_eq_none (by omega)]
def L140i (c : Conf) (ov : DV) (s : List Int) (x j : Nat) (w : VSt) : Prop := gt .bad w.E 1 = .mp 1 1 0 0 ∧ hg w.H 1 = ⟨1, 0, true, [eK c]⟩ ∧ gt .bad w.E 3 = ov ∧ SlB w.H 30 1 (s.map eI) ov ∧ gt .bad w.E 4 = dI (x : Nat) ∧ gt .bad w.E 5 = dI (j : Nat) ∧ gt .bad w.E 2 = .lit (.slice none 0 0) ∧ j ≤ posI (bef c) x s
theorem rorder_l0 (c : Conf) (hc : Lens c) (ov : DV) (s : List Int) (x : Nat) (hx : x < c.tens.length) (hm : ∀ y, y ∈ s → 0 ≤ y ∧ y < c.tens.length) (hl : s.length ≤ 1000) : ∀ j w, L140i c ov s x j w → Ok (R PP shF 0 44 (.loop ir140_l0) w) (fun e w => e = .exit 2 ∧ L140i c ov s x (posI (bef c) x s) w) := by
  refine Ok_up s.length (L140i c ov s x) fun j w hI => ?_
  obtain ⟨E, H⟩ := w
  obtain ⟨e1, h1, e3, ho, e4, e5, e2, hj⟩ := hI
  simp only at e1 h1 e3 ho e4 e5 e2
  have w1 : IntKind.wrap .i64 ((j : Int) + 1) = ((j + 1 : Nat) : Int) := by have := posI_le (bef c) x s; rw [w64 (by omega) (by omega)]; rfl
  by_cases hlt : j < s.length
  · have q1 : (j : Int) < (s.length : Int) := by omega
    have q0 : (0 : Int) ≤ (j : Int) := by omega
    have d1 : decide ((j : Int) < (s.length : Int)) = true := by simp; omega
    have g1 := getD_at (l := s) (i := j) (d := 0) hlt
    have B := FV_before c (s.getD j 0) x (hm _ (List.mem_of_getElem? g1)) (by omega)
    rcases ho with ⟨hz, rfl⟩ | ⟨hz, ver, rfl, hb⟩
    · rw [List.map_eq_nil_iff] at hz; subst hz; simp at hlt
    · by_cases hp : j < posI (bef c) x s
      · rw [(posI_lt _ _ _ _ hp).2] at B
        simp -implicitDefEqProofs only [go_sem, ↓reduceIte, Nat.reduceEqDiff, Nat.reduceAdd, Nat.reduceSub, Nat.reduceMul, Nat.reduceLeDiff, Nat.reduceLT, Nat.reduceBEq, Nat.reduceBNe, reduceCtorEq, beq_self_eq_true, Int.toNat_natCast, List.length_map, List.length_nil, Int.reduceToNat, Int.reduceAdd, Int.reduceSub, Int.reduceMul, Int.reduceLT, Int.reduceLE, Int.reduceEq, Int.reduceBEq, Int.reduceNeg, decide_true, decide_false, Nat.le_max_left, Nat.le_max_right, ne_eq, not_true_eq_false, not_false_eq_true, Int.natCast_zero, gt_iff_lt, ge_iff_le, Int.reduceGT, Int.reduceGE, Bool.false_and, Bool.and_false, Bool.true_and, Bool.and_true, ir140_l0, eK, e1, h1, e3, e4, e5, e2, d1, q0, q1, hb, g1, w1, vpS B rfl]
        refine .next hlt ⟨?_, ?_, ?_, SlB.mk ?_ ?_ ?_, ?_, ?_, ?_, hp⟩ <;> first | exact hz | (try simp -implicitDefEqProofs only [go_sem, ↓reduceIte, Nat.reduceEqDiff, Nat.reduceAdd, Nat.reduceSub, Nat.reduceMul, Nat.reduceLeDiff, Nat.reduceLT, Nat.reduceBEq, Nat.reduceBNe, reduceCtorEq, beq_self_eq_true, Int.toNat_natCast, List.length_map, List.length_nil, Int.reduceToNat, Int.reduceAdd, Int.reduceSub, Int.reduceMul, Int.reduceLT, Int.reduceLE, Int.reduceEq, Int.reduceBEq, Int.reduceNeg, decide_true, decide_false, Nat.le_max_left, Nat.le_max_right, ne_eq, not_true_eq_false, not_false_eq_true, Int.natCast_zero, gt_iff_lt, ge_iff_le, Int.reduceGT, Int.reduceGE, Bool.false_and, Bool.and_false, Bool.true_and, Bool.and_true, e1, h1, e3, e4, e2, w1, hb])
        all_goals first | omega | skip
      · have hj' : j = posI (bef c) x s := by omega
        have := posI_at (bef c) x s (by omega)
        rw [← hj'] at this
        rw [this] at B
        simp -implicitDefEqProofs only [go_sem, ↓reduceIte, Nat.reduceEqDiff, Nat.reduceAdd, Nat.reduceSub, Nat.reduceMul, Nat.reduceLeDiff, Nat.reduceLT, Nat.reduceBEq, Nat.reduceBNe, reduceCtorEq, beq_self_eq_true, Int.toNat_natCast, List.length_map, List.length_nil, Int.reduceToNat, Int.reduceAdd, Int.reduceSub, Int.reduceMul, Int.reduceLT, Int.reduceLE, Int.reduceEq, Int.reduceBEq, Int.reduceNeg, decide_true, decide_false, Nat.le_max_left, Nat.le_max_right, ne_eq, not_true_eq_false, not_false_eq_true, Int.natCast_zero, gt_iff_lt, ge_iff_le, Int.reduceGT, Int.reduceGE, Bool.false_and, Bool.and_false, Bool.true_and, Bool.and_true, ir140_l0, eK, e1, h1, e3, e4, e5, e2, d1, q0, q1, hb, g1, w1, vpS B rfl]
        refine .exit ⟨rfl, ?_, ?_, ?_, .inr ⟨hz, ver, ?_, hb⟩, ?_, ?_, ?_, by omega⟩ <;> simp -implicitDefEqProofs only [go_sem, ↓reduceIte, Nat.reduceEqDiff, Nat.reduceAdd, Nat.reduceSub, Nat.reduceMul, Nat.reduceLeDiff, Nat.reduceLT, Nat.reduceBEq, Nat.reduceBNe, reduceCtorEq, beq_self_eq_true, Int.toNat_natCast, List.length_map, List.length_nil, Int.reduceToNat, Int.reduceAdd, Int.reduceSub, Int.reduceMul, Int.reduceLT, Int.reduceLE, Int.reduceEq, Int.reduceBEq, Int.reduceNeg, decide_true, decide_false, Nat.le_max_left, Nat.le_max_right, ne_eq, not_true_eq_false, not_false_eq_true, Int.natCast_zero, gt_iff_lt, ge_iff_le, Int.reduceGT, Int.reduceGE, Bool.false_and, Bool.and_false, Bool.true_and, Bool.and_true, e1, h1, e3, e4, e5, e2, ← hj']
  · have hj' : j = posI (bef c) x s := by have := posI_le (bef c) x s; omega
    have d1 : decide ((j : Int) < (s.length : Int)) = false := by simp; omega
    rcases ho with ⟨hz, rfl⟩ | ⟨hz, ver, rfl, hb⟩
    · rw [List.map_eq_nil_iff] at hz; subst hz
      simp only [List.length_nil] at d1
      have d1' : decide ((j : Int) < 0) = false := by simp
      simp -implicitDefEqProofs only [go_sem, ↓reduceIte, Nat.reduceEqDiff, Nat.reduceAdd, Nat.reduceSub, Nat.reduceMul, Nat.reduceLeDiff, Nat.reduceLT, Nat.reduceBEq, Nat.reduceBNe, reduceCtorEq, beq_self_eq_true, Int.toNat_natCast, List.length_map, List.length_nil, Int.reduceToNat, Int.reduceAdd, Int.reduceSub, Int.reduceMul, Int.reduceLT, Int.reduceLE, Int.reduceEq, Int.reduceBEq, Int.reduceNeg, decide_true, decide_false, Nat.le_max_left, Nat.le_max_right, ne_eq, not_true_eq_false, not_false_eq_true, Int.natCast_zero, gt_iff_lt, ge_iff_le, Int.reduceGT, Int.reduceGE, Bool.false_and, Bool.and_false, Bool.true_and, Bool.and_true, ir140_l0, eK, e1, h1, e3, e4, e5, e2, d1, d1']
      refine .exit ⟨rfl, ?_, ?_, ?_, .inl ⟨rfl, rfl⟩, ?_, ?_, ?_, by omega⟩ <;> simp -implicitDefEqProofs only [go_sem, ↓reduceIte, Nat.reduceEqDiff, Nat.reduceAdd, Nat.reduceSub, Nat.reduceMul, Nat.reduceLeDiff, Nat.reduceLT, Nat.reduceBEq, Nat.reduceBNe, reduceCtorEq, beq_self_eq_true, Int.toNat_natCast, List.length_map, List.length_nil, Int.reduceToNat, Int.reduceAdd, Int.reduceSub, Int.reduceMul, Int.reduceLT, Int.reduceLE, Int.reduceEq, Int.reduceBEq, Int.reduceNeg, decide_true, decide_false, Nat.le_max_left, Nat.le_max_right, ne_eq, not_true_eq_false, not_false_eq_true, Int.natCast_zero, gt_iff_lt, ge_iff_le, Int.reduceGT, Int.reduceGE, Bool.false_and, Bool.and_false, Bool.true_and, Bool.and_true, e1, h1, e3, e4, e5, e2, ← hj']
    · simp -implicitDefEqProofs only [go_sem, ↓reduceIte, Nat.reduceEqDiff, Nat.reduceAdd, Nat.reduceSub, Nat.reduceMul, Nat.reduceLeDiff, Nat.reduceLT, Nat.reduceBEq, Nat.reduceBNe, reduceCtorEq, beq_self_eq_true, Int.toNat_natCast, List.length_map, List.length_nil, Int.reduceToNat, Int.reduceAdd, Int.reduceSub, Int.reduceMul, Int.reduceLT, Int.reduceLE, Int.reduceEq, Int.reduceBEq, Int.reduceNeg, decide_true, decide_false, Nat.le_max_left, Nat.le_max_right, ne_eq, not_true_eq_false, not_false_eq_true, Int.natCast_zero, gt_iff_lt, ge_iff_le, Int.reduceGT, Int.reduceGE, Bool.false_and, Bool.and_false, Bool.true_and, Bool.and_true, ir140_l0, eK, e1, h1, e3, e4, e5, e2, d1, hb]
      refine .exit ⟨rfl, ?_, ?_, ?_, .inr ⟨hz, ver, ?_, hb⟩, ?_, ?_, ?_, by omega⟩ <;> simp -implicitDefEqProofs only [go_sem, ↓reduceIte, Nat.reduceEqDiff, Nat.reduceAdd, Nat.reduceSub, Nat.reduceMul, Nat.reduceLeDiff, Nat.reduceLT, Nat.reduceBEq, Nat.reduceBNe, reduceCtorEq, beq_self_eq_true, Int.toNat_natCast, List.length_map, List.length_nil, Int.reduceToNat, Int.reduceAdd, Int.reduceSub, Int.reduceMul, Int.reduceLT, Int.reduceLE, Int.reduceEq, Int.reduceBEq, Int.reduceNeg, decide_true, decide_false, Nat.le_max_left, Nat.le_max_right, ne_eq, not_true_eq_false, not_false_eq_true, Int.natCast_zero, gt_iff_lt, ge_iff_le, Int.reduceGT, Int.reduceGE, Bool.false_and, Bool.and_false, Bool.true_and, Bool.and_true, e1, h1, e3, e4, e5, e2, ← hj']
def L140 (c : Conf) (k : Nat) (w : VSt) : Prop := ∃ ov : DV, gt .bad w.E 1 = .mp 1 1 0 0 ∧ hg w.H 1 = ⟨1, 0, true, [eK c]⟩ ∧ gt .bad w.E 3 = ov ∧ SlB w.H 30 1 ((rOrd (bef c) k).map eI) ov ∧ gt .bad w.E 4 = dI (k : Nat) ∧ gt .bad w.E 2 = .lit (.slice none 0 0) ∧ k ≤ c.tens.length
theorem rorder_l1 (c : Conf) (hc : Lens c) : ∀ k w, L140 c k w → Ok (R PP shF 0 44 (.loop ir140_l1) w) (fun e w => e = .exit 0 ∧ ∃ ov : DV, gt .bad w.E 3 = ov ∧ SlB w.H 30 1 ((rOrd (bef c) c.tens.length).map eI) ov) := by
  refine Ok_up c.tens.length (L140 c) fun k w hI => ?_
  obtain ⟨E, H⟩ := w
  obtain ⟨ov, e1, h1, e3, ho, e4, e2, hk⟩ := hI
  simp only at e1 h1 e3 ho e4 e2
  have ht := hc.t
  have w1 : IntKind.wrap .i64 ((k : Int) + 1) = ((k + 1 : Nat) : Int) := by rw [w64 (by omega) (by omega)]; rfl
  by_cases hlt : k < c.tens.length
  · have d1 : decide ((k : Int) < (c.tens.length : Int)) = true := by simp; omega
    have hl := rOrd_len (bef c) k
    have hq := posI_le (bef c) k (rOrd (bef c) k)
    simp -implicitDefEqProofs only [go_sem, ↓reduceIte, Nat.reduceEqDiff, Nat.reduceAdd, Nat.reduceSub, Nat.reduceMul, Nat.reduceLeDiff, Nat.reduceLT, Nat.reduceBEq, Nat.reduceBNe, reduceCtorEq, beq_self_eq_true, Int.toNat_natCast, List.length_map, List.length_nil, Int.reduceToNat, Int.reduceAdd, Int.reduceSub, Int.reduceMul, Int.reduceLT, Int.reduceLE, Int.reduceEq, Int.reduceBEq, Int.reduceNeg, decide_true, decide_false, Nat.le_max_left, Nat.le_max_right, ne_eq, not_true_eq_false, not_false_eq_true, Int.natCast_zero, gt_iff_lt, ge_iff_le, Int.reduceGT, Int.reduceGE, Bool.false_and, Bool.and_false, Bool.true_and, Bool.and_true, ir140_l1, eK, e1, h1, e3, e4, d1]
    refine (rorder_l0 c hc ov (rOrd (bef c) k) k hlt (fun y hy => by have := rOrd_mem.1 hy; omega) (by omega) 0 _ ⟨?_, ?_, ?_, ho, ?_, ?_, ?_, Nat.zero_le _⟩).mono ?_ <;> (try simp -implicitDefEqProofs only [go_sem, ↓reduceIte, Nat.reduceEqDiff, Nat.reduceAdd, Nat.reduceSub, Nat.reduceMul, Nat.reduceLeDiff, Nat.reduceLT, Nat.reduceBEq, Nat.reduceBNe, reduceCtorEq, beq_self_eq_true, Int.toNat_natCast, List.length_map, List.length_nil, Int.reduceToNat, Int.reduceAdd, Int.reduceSub, Int.reduceMul, Int.reduceLT, Int.reduceLE, Int.reduceEq, Int.reduceBEq, Int.reduceNeg, decide_true, decide_false, Nat.le_max_left, Nat.le_max_right, ne_eq, not_true_eq_false, not_false_eq_true, Int.natCast_zero, gt_iff_lt, ge_iff_le, Int.reduceGT, Int.reduceGE, Bool.false_and, Bool.and_false, Bool.true_and, Bool.and_true, e1, h1, e3, e4, e2, eK])
    rintro e ⟨E', H'⟩ ⟨rfl, f1, g1, f3, fo, f4, f5, f2, _⟩
    simp only at f1 g1 f3 fo f4 f5 f2
    generalize hqq : posI (bef c) k (rOrd (bef c) k) = q at *
    have hcp := ins_copy (bef c) k (rOrd (bef c) k)
    rw [hqq, hl] at hcp
    have hcp' : (List.map eI (List.take (q + 1) (rOrd (bef c) k ++ [0])) ++ List.map eI (((rOrd (bef c) k ++ [0]).drop q).take (k - q))).set q [dI k] = List.map eI (rOrd (bef c) (k + 1)) := by
      rw [← List.map_append]
      rw [show ([dI (k : Nat)] : List DV) = eI (k : Nat) from rfl, ← List.map_set, hcp]
      rfl
    have wq : IntKind.wrap .i64 ((q : Int) + 1) = ((q + 1 : Nat) : Int) := by rw [w64 (by omega) (by omega)]; rfl
    have hlm : (List.map eI (rOrd (bef c) k)).length = k := by simp [hl]
    have u1 : (((q + 1 : Nat) : Int)).toNat = q + 1 := by omega
    have u0 : ((q : Nat) : Int).toNat = q := by omega
    have u2 : (((k + 1 : Nat) : Int)).toNat = k + 1 := by omega
    have r1 : (0 : Int) ≤ ((q + 1 : Nat) : Int) ∧ ((q + 1 : Nat) : Int) ≤ ((k + 1 : Nat) : Int) := by omega
    have r2 : (0 : Int) ≤ ((q : Nat) : Int) ∧ ((q : Nat) : Int) ≤ ((k + 1 : Nat) : Int) := by omega
    have r3 : (0 : Int) ≤ ((q : Nat) : Int) ∧ ((q : Nat) : Int) < ((k + 1 : Nat) : Int) := by omega
    have wk1 : IntKind.wrap .i64 1 = 1 := rfl
    rcases fo with ⟨hz, rfl⟩ | ⟨hz, ver, rfl, hb⟩
    · have hk0 : k = 0 := by rw [hz] at hlm; simpa using hlm.symm
      subst hk0
      have hq0 : q = 0 := by omega
      subst hq0
      have z1 : (0 : Int) ≤ ((1 : Nat) : Int) ∧ ((1 : Nat) : Int) ≤ ((1 : Nat) : Int) := by decide
      have z2 : (1 : Int) ≤ ((1 : Nat) : Int) ∧ ((1 : Nat) : Int) ≤ ((1 : Nat) : Int) := by decide
      have z3 : (0 : Int) < ((1 : Nat) : Int) := by decide
      simp -implicitDefEqProofs only [go_sem, ↓reduceIte, Nat.reduceEqDiff, Nat.reduceAdd, Nat.reduceSub, Nat.reduceMul, Nat.reduceLeDiff, Nat.reduceLT, Nat.reduceBEq, Nat.reduceBNe, reduceCtorEq, beq_self_eq_true, Int.toNat_natCast, List.length_map, List.length_nil, Int.reduceToNat, Int.reduceAdd, Int.reduceSub, Int.reduceMul, Int.reduceLT, Int.reduceLE, Int.reduceEq, Int.reduceBEq, Int.reduceNeg, decide_true, decide_false, Nat.le_max_left, Nat.le_max_right, ne_eq, not_true_eq_false, not_false_eq_true, Int.natCast_zero, gt_iff_lt, ge_iff_le, Int.reduceGT, Int.reduceGE, Bool.false_and, Bool.and_false, Bool.true_and, Bool.and_true, f1, g1, f3, f4, f5, f2, wk1, z1, z2, z3, Int.le_refl, Int.toNat_one, Int.toNat_zero, Nat.sub_self]
      refine .next hlt ⟨.ms 30 ((hg H' 30).ver + 1) 0 1 1, ?_, ?_, ?_, SlB.mk ?_ ?_ ?_, ?_, ?_, by omega⟩ <;> (try simp -implicitDefEqProofs only [go_sem, ↓reduceIte, Nat.reduceEqDiff, Nat.reduceAdd, Nat.reduceSub, Nat.reduceMul, Nat.reduceLeDiff, Nat.reduceLT, Nat.reduceBEq, Nat.reduceBNe, reduceCtorEq, beq_self_eq_true, Int.toNat_natCast, List.length_map, List.length_nil, Int.reduceToNat, Int.reduceAdd, Int.reduceSub, Int.reduceMul, Int.reduceLT, Int.reduceLE, Int.reduceEq, Int.reduceBEq, Int.reduceNeg, decide_true, decide_false, Nat.le_max_left, Nat.le_max_right, ne_eq, not_true_eq_false, not_false_eq_true, Int.natCast_zero, gt_iff_lt, ge_iff_le, Int.reduceGT, Int.reduceGE, Bool.false_and, Bool.and_false, Bool.true_and, Bool.and_true, f1, g1, f2, w1, ins, rOrd])
      all_goals first | rfl | simp
    · have c1 : ¬ k + 1 ≤ k := by omega
      have c2 : (k + 1) * 8 ≤ 140737488355328 ∧ k ≤ 9223372036854775806 := by omega
      have tk : List.take k (List.map eI (rOrd (bef c) k)) = List.map eI (rOrd (bef c) k) := List.take_of_length_le (by omega)
      rw [hlm] at f3
      have hM : List.map eI (rOrd (bef c) k) ++ [[dI 0]] = List.map eI (rOrd (bef c) k ++ [0]) := by simp
      have hML : (List.map eI (rOrd (bef c) k ++ [0])).length = k + 1 := by simp [hl]
      rw [List.map_take, List.map_take, List.map_drop] at hcp'
      generalize hMM : List.map eI (rOrd (bef c) k ++ [0]) = M at *
      have s1 : q + (k + 1 - q) = k + 1 := by omega
      have tX : List.take (k - q) (List.take (k + 1 - q) (List.drop q M)) = List.take (k - q) (List.drop q M) := by rw [List.take_take, Nat.min_eq_left (by omega)]
      have xl : (List.take (k - q) (List.drop q M)).length = k - q := by simp [hML]; omega
      have xa : ((List.take (k - q) (List.drop q M)).all fun el => el.length == 1 && el.all oneD) = true := by
        rw [List.all_eq_true]
        intro el hel
        have h1 := List.mem_of_mem_drop (List.mem_of_mem_take hel)
        rw [← hMM, List.mem_map] at h1
        obtain ⟨z, _, rfl⟩ := h1
        rfl
      have xd : List.drop (q + 1 + (List.take (k - q) (List.drop q M)).length) M = [] := List.drop_of_length_le (by rw [xl, hML]; omega)
      obtain ⟨z, gq⟩ : ∃ z, M[q]? = some [dI z] := by
        have h1 : (rOrd (bef c) k ++ [0])[q]? = some ((rOrd (bef c) k ++ [0]).getD q 0) := getD_at (by simp; omega)
        exact ⟨_, by rw [← hMM, List.getElem?_map, h1]; rfl⟩
      generalize List.take (k - q) (List.drop q M) = X at *
      have fin : (List.map eI (rOrd (bef c) (k + 1))).length = k + 1 := by simp [rOrd_len]
      by_cases hkq : k = q
      · subst hkq
        have hX : X = [] := List.length_eq_zero_iff.1 (by omega)
        subst hX
        have tk2 : List.take (k + 1) M = M := List.take_of_length_le (by omega)
        rw [tk2, List.append_nil] at hcp'
        simp -implicitDefEqProofs only [go_sem, ↓reduceIte, Nat.reduceEqDiff, Nat.reduceAdd, Nat.reduceSub, Nat.reduceMul, Nat.reduceLeDiff, Nat.reduceLT, Nat.reduceBEq, Nat.reduceBNe, reduceCtorEq, beq_self_eq_true, Int.toNat_natCast, List.length_map, List.length_nil, Int.reduceToNat, Int.reduceAdd, Int.reduceSub, Int.reduceMul, Int.reduceLT, Int.reduceLE, Int.reduceEq, Int.reduceBEq, Int.reduceNeg, decide_true, decide_false, Nat.le_max_left, Nat.le_max_right, ne_eq, not_true_eq_false, not_false_eq_true, Int.natCast_zero, gt_iff_lt, ge_iff_le, Int.reduceGT, Int.reduceGE, Bool.false_and, Bool.and_false, Bool.true_and, Bool.and_true, f1, g1, f3, f4, f5, f2, wq, hb, hlm, c1, c2, tk, r1, r2, r3, u0, u1, u2, hM, hML, Int.le_refl, Nat.sub_self, s1, gq]
        refine .next hlt ⟨.ms 30 (ver + 1 + 1) 0 (k + 1) (k + 1), ?_, ?_, ?_, SlB.mk ?_ ?_ ?_, ?_, ?_, by omega⟩ <;> (try simp -implicitDefEqProofs only [go_sem, ↓reduceIte, Nat.reduceEqDiff, Nat.reduceAdd, Nat.reduceSub, Nat.reduceMul, Nat.reduceLeDiff, Nat.reduceLT, Nat.reduceBEq, Nat.reduceBNe, reduceCtorEq, beq_self_eq_true, Int.toNat_natCast, List.length_map, List.length_nil, Int.reduceToNat, Int.reduceAdd, Int.reduceSub, Int.reduceMul, Int.reduceLT, Int.reduceLE, Int.reduceEq, Int.reduceBEq, Int.reduceNeg, decide_true, decide_false, Nat.le_max_left, Nat.le_max_right, ne_eq, not_true_eq_false, not_false_eq_true, Int.natCast_zero, gt_iff_lt, ge_iff_le, Int.reduceGT, Int.reduceGE, Bool.false_and, Bool.and_false, Bool.true_and, Bool.and_true, f1, g1, f2, w1, hcp', fin])
        all_goals first | rfl | omega | skip
      · have hX : X ≠ [] := fun h => by rw [h] at xl; simp at xl; omega
        have s2 : q + 1 + (k - q) ≤ k + 1 := by omega
        rw [xl] at xd
        have ml : (List.take (q + 1) M ++ X).length = k + 1 := by simp [hML, xl]; omega
        have gq2 : (List.take (q + 1) M ++ X)[q]? = some [dI z] := by rw [List.getElem?_append_left (by simp; omega), List.getElem?_take, if_pos (by omega)]; exact gq
        simp -implicitDefEqProofs only [go_sem, ↓reduceIte, Nat.reduceEqDiff, Nat.reduceAdd, Nat.reduceSub, Nat.reduceMul, Nat.reduceLeDiff, Nat.reduceLT, Nat.reduceBEq, Nat.reduceBNe, reduceCtorEq, beq_self_eq_true, Int.toNat_natCast, List.length_map, List.length_nil, Int.reduceToNat, Int.reduceAdd, Int.reduceSub, Int.reduceMul, Int.reduceLT, Int.reduceLE, Int.reduceEq, Int.reduceBEq, Int.reduceNeg, decide_true, decide_false, Nat.le_max_left, Nat.le_max_right, ne_eq, not_true_eq_false, not_false_eq_true, Int.natCast_zero, gt_iff_lt, ge_iff_le, Int.reduceGT, Int.reduceGE, Bool.false_and, Bool.and_false, Bool.true_and, Bool.and_true, f1, g1, f3, f4, f5, f2, wq, hb, hlm, c1, c2, tk, r1, r2, r3, u0, u1, u2, hM, hML, Int.le_refl, Nat.sub_self, s1, Nat.add_sub_add_right, tX, hX, xl, s2, xa, xd, ml, gq2]
        refine .next hlt ⟨.ms 30 (ver + 1 + 1) 0 (k + 1) (k + 1), ?_, ?_, ?_, SlB.mk ?_ ?_ ?_, ?_, ?_, by omega⟩ <;> (try simp -implicitDefEqProofs only [go_sem, ↓reduceIte, Nat.reduceEqDiff, Nat.reduceAdd, Nat.reduceSub, Nat.reduceMul, Nat.reduceLeDiff, Nat.reduceLT, Nat.reduceBEq, Nat.reduceBNe, reduceCtorEq, beq_self_eq_true, Int.toNat_natCast, List.length_map, List.length_nil, Int.reduceToNat, Int.reduceAdd, Int.reduceSub, Int.reduceMul, Int.reduceLT, Int.reduceLE, Int.reduceEq, Int.reduceBEq, Int.reduceNeg, decide_true, decide_false, Nat.le_max_left, Nat.le_max_right, ne_eq, not_true_eq_false, not_false_eq_true, Int.natCast_zero, gt_iff_lt, ge_iff_le, Int.reduceGT, Int.reduceGE, Bool.false_and, Bool.and_false, Bool.true_and, Bool.and_true, f1, g1, f2, w1, hcp', fin])
        all_goals first | rfl | omega | skip
  · have : k = c.tens.length := by omega
    subst this
    have d1 : decide ((c.tens.length : Int) < (c.tens.length : Int)) = false := by simp
    simp -implicitDefEqProofs only [go_sem, ↓reduceIte, Nat.reduceEqDiff, Nat.reduceAdd, Nat.reduceSub, Nat.reduceMul, Nat.reduceLeDiff, Nat.reduceLT, Nat.reduceBEq, Nat.reduceBNe, reduceCtorEq, beq_self_eq_true, Int.toNat_natCast, List.length_map, List.length_nil, Int.reduceToNat, Int.reduceAdd, Int.reduceSub, Int.reduceMul, Int.reduceLT, Int.reduceLE, Int.reduceEq, Int.reduceBEq, Int.reduceNeg, decide_true, decide_false, Nat.le_max_left, Nat.le_max_right, ne_eq, not_true_eq_false, not_false_eq_true, Int.natCast_zero, gt_iff_lt, ge_iff_le, Int.reduceGT, Int.reduceGE, Bool.false_and, Bool.and_false, Bool.true_and, Bool.and_true, ir140_l1, e1, h1, e4, eK, d1]
    exact .exit ⟨rfl, ov, by simp -implicitDefEqProofs only [go_sem, ↓reduceIte, Nat.reduceEqDiff, Nat.reduceAdd, Nat.reduceSub, Nat.reduceMul, Nat.reduceLeDiff, Nat.reduceLT, Nat.reduceBEq, Nat.reduceBNe, reduceCtorEq, beq_self_eq_true, Int.toNat_natCast, List.length_map, List.length_nil, Int.reduceToNat, Int.reduceAdd, Int.reduceSub, Int.reduceMul, Int.reduceLT, Int.reduceLE, Int.reduceEq, Int.reduceBEq, Int.reduceNeg, decide_true, decide_false, Nat.le_max_left, Nat.le_max_right, ne_eq, not_true_eq_false, not_false_eq_true, Int.natCast_zero, gt_iff_lt, ge_iff_le, Int.reduceGT, Int.reduceGE, Bool.false_and, Bool.and_false, Bool.true_and, Bool.and_true, e3], ho⟩
theorem FVF_rOrder (c : Conf) (hc : Lens c) : FVF PP shF 140 [.agg (eK c)] (dL (rOrd (bef c) c.tens.length)) := by
  refine FVF_ok (F_ok PP140 rfl ⟨by simp [ir140], by simp⟩ ?_)
  simp -implicitDefEqProofs only [go_sem, ↓reduceIte, Nat.reduceEqDiff, Nat.reduceAdd, Nat.reduceSub, Nat.reduceMul, Nat.reduceLeDiff, Nat.reduceLT, Nat.reduceBEq, Nat.reduceBNe, reduceCtorEq, beq_self_eq_true, Int.toNat_natCast, List.length_map, List.length_nil, Int.reduceToNat, Int.reduceAdd, Int.reduceSub, Int.reduceMul, Int.reduceLT, Int.reduceLE, Int.reduceEq, Int.reduceBEq, Int.reduceNeg, decide_true, decide_false, Nat.le_max_left, Nat.le_max_right, ne_eq, not_true_eq_false, not_false_eq_true, Int.natCast_zero, gt_iff_lt, ge_iff_le, Int.reduceGT, Int.reduceGE, Bool.false_and, Bool.and_false, Bool.true_and, Bool.and_true, ir140, eK]
  refine (rorder_l1 c hc 0 _ ⟨.lit (.slice none 0 0), ?_, ?_, ?_, ?_, ?_, ?_, by omega⟩).mono ?_ <;> (try simp -implicitDefEqProofs only [go_sem, ↓reduceIte, Nat.reduceEqDiff, Nat.reduceAdd, Nat.reduceSub, Nat.reduceMul, Nat.reduceLeDiff, Nat.reduceLT, Nat.reduceBEq, Nat.reduceBNe, reduceCtorEq, beq_self_eq_true, Int.toNat_natCast, List.length_map, List.length_nil, Int.reduceToNat, Int.reduceAdd, Int.reduceSub, Int.reduceMul, Int.reduceLT, Int.reduceLE, Int.reduceEq, Int.reduceBEq, Int.reduceNeg, decide_true, decide_false, Nat.le_max_left, Nat.le_max_right, ne_eq, not_true_eq_false, not_false_eq_true, Int.natCast_zero, gt_iff_lt, ge_iff_le, Int.reduceGT, Int.reduceGE, Bool.false_and, Bool.and_false, Bool.true_and, Bool.and_true, eK, rOrd])
  · exact SlB.nil
  rintro e ⟨E, H⟩ ⟨rfl, ov, e3, ho⟩
  simp only at e3 ho
  simp -implicitDefEqProofs only [go_sem, ↓reduceIte, Nat.reduceEqDiff, Nat.reduceAdd, Nat.reduceSub, Nat.reduceMul, Nat.reduceLeDiff, Nat.reduceLT, Nat.reduceBEq, Nat.reduceBNe, reduceCtorEq, beq_self_eq_true, Int.toNat_natCast, List.length_map, List.length_nil, Int.reduceToNat, Int.reduceAdd, Int.reduceSub, Int.reduceMul, Int.reduceLT, Int.reduceLE, Int.reduceEq, Int.reduceBEq, Int.reduceNeg, decide_true, decide_false, Nat.le_max_left, Nat.le_max_right, ne_eq, not_true_eq_false, not_false_eq_true, Int.natCast_zero, gt_iff_lt, ge_iff_le, Int.reduceGT, Int.reduceGE, Bool.false_and, Bool.and_false, Bool.true_and, Bool.and_true, e3, ho.frz (by decide) (closed_eI _), ho.fresh (by decide) (lits_eI _)]
theorem FV_run (k : Nat) {g : Nat} (h : (vmach PP shF k g [] [] 0).map (·.1) = some (dB true)) : FV PP shF g [] = some (dB true) := by
  simp only [Option.map_eq_some_iff] at h
  obtain ⟨⟨d, H⟩, h1, h2⟩ := h
  simp only at h2; subst h2
  exact FV_B (F_of k h1)
theorem FV_awake05 : FV PP shF 138 [] = some (dB true) := FV_run 60 (by kernel_rfl)
theorem FVF_Order' (c : Conf) (hc : ConfOk c) : FVF PP shF 139 [.agg (eK c)] (dL (rOrd (bef c) c.tens.length)) := by
  have h := FVF_Order c hc.lens hc.t1
  rw [orderL_eq] at h; exact h
theorem law_TenantOrder (l : List Int) (hl : I64s l) : OkF (F PP shF 133 [dL l] [] 0) (fun d _ => d = dB true) := by
  refine F_ok PP133 rfl ⟨by simp [ir133], by simp⟩ ?_
  by_cases hlen : l.length ≤ 200
  · have L := FV_Light l
    rw [decide_eq_true hlen] at L
    obtain ⟨c, hc, hF⟩ := FV_Config l hl
    have B1 := FVF_Order' c hc
    have B2 := FVF_rOrder c hc.lens
    have S := FV_SameInts (rOrd (bef c) c.tens.length) (rOrd (bef c) c.tens.length) (by rw [rOrd_len]; have := hc.t1; omega) (by rw [rOrd_len]; have := hc.t1; omega)
    rw [decide_eq_true rfl] at S
    have n1 : ∀ x : Int, (x == x) = true := fun x => by simp
    simp -implicitDefEqProofs only [go_sem, ↓reduceIte, Nat.reduceEqDiff, Nat.reduceAdd, Nat.reduceSub, Nat.reduceMul, Nat.reduceLeDiff, Nat.reduceLT, Nat.reduceBEq, Nat.reduceBNe, reduceCtorEq, beq_self_eq_true, Int.toNat_natCast, List.length_map, List.length_nil, Int.reduceToNat, Int.reduceAdd, Int.reduceSub, Int.reduceMul, Int.reduceLT, Int.reduceLE, Int.reduceEq, Int.reduceBEq, Int.reduceNeg, decide_true, decide_false, Nat.le_max_left, Nat.le_max_right, ne_eq, not_true_eq_false, not_false_eq_true, Int.natCast_zero, gt_iff_lt, ge_iff_le, Int.reduceGT, Int.reduceGE, Bool.false_and, Bool.and_false, Bool.true_and, Bool.and_true, ir133, vpS L rfl, vpL hF rfl, eK, vpS FV_awake05 rfl, vpF B1 rfl, vpF B2 rfl, vpS S rfl, vpS (FV_Total c hc) rfl, vpS (FV_rTotal c hc) rfl, n1]
  · have L := FV_Light l
    rw [decide_eq_false hlen] at L
    simp -implicitDefEqProofs only [go_sem, ↓reduceIte, Nat.reduceEqDiff, Nat.reduceAdd, Nat.reduceSub, Nat.reduceMul, Nat.reduceLeDiff, Nat.reduceLT, Nat.reduceBEq, Nat.reduceBNe, reduceCtorEq, beq_self_eq_true, Int.toNat_natCast, List.length_map, List.length_nil, Int.reduceToNat, Int.reduceAdd, Int.reduceSub, Int.reduceMul, Int.reduceLT, Int.reduceLE, Int.reduceEq, Int.reduceBEq, Int.reduceNeg, decide_true, decide_false, Nat.le_max_left, Nat.le_max_right, ne_eq, not_true_eq_false, not_false_eq_true, Int.natCast_zero, gt_iff_lt, ge_iff_le, Int.reduceGT, Int.reduceGE, Bool.false_and, Bool.and_false, Bool.true_and, Bool.and_true, ir133, vpS L rfl, vpS FV_awake05 rfl]
end Go.Proofs.Cp
