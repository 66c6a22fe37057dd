/- What the functions answer (part 1). -/
import Derived.Test.YtjgijnimbnielaaFn0
set_option linter.unusedSimpArgs false
set_option linter.unusedVariables false
set_option maxRecDepth 100000
namespace Go.Proofs.Cp
open Go
theorem filter_take_all {l : List Int} {q : Int → Bool} : ∀ {i : Nat}, i ≤ l.length → (∀ j, j < i → q (l.getD j 0) = true) → (l.take i).filter q = l.take i
  | 0, _, _ => by simp
  | i + 1, hi, h => by
    have e : l.take (i + 1) = l.take i ++ [l.getD i 0] := by rw [List.take_add_one, getD_at (l := l) (i := i) (d := 0) (by omega)]; rfl
    rw [e, List.filter_append, filter_take_all (by omega) (fun j hj => h j (by omega)), List.filter_cons, if_pos (h i (by omega)), List.filter_nil]
theorem hs_selfx {H : VHeap} {b : Nat} {x : VB} (h : hg H b = x) (hx : x.live = true) : hs H b x = H := by
  apply VHeap.ext'
  · rw [hs_len]
    have : b < H.length := by
      rcases Nat.lt_or_ge b H.length with h1 | h1
      · exact h1
      · rw [hg_ge H h1] at h; subst h; simp at hx
    omega
  · intro c
    rw [hg_hs]
    split
    · rename_i e; subst e; exact h.symm
    · rfl
theorem F_DeleteFunc (c : Conf) (hc : ConfOk c) (h : Int) (b ver b3 v3 b5 v5 : Nat) (hb3 : b ≠ b3) (hb5 : b ≠ b5) (l : List Int) (hl : l.length ≤ 1000000) (H : VHeap) (base : Nat) (hb : hg H b = ⟨ver, 1, true, l.map eI⟩) (h3 : hg H b3 = ⟨v3, 0, true, [eK c]⟩) (h5 : hg H b5 = ⟨v5, 0, true, [[dI h]]⟩) (hbase : H.length ≤ base) :
    F PP shF 151 [.ms b ver 0 l.length l.length, .fn 152 [.mp b3 v3 0 0, .mp b5 v5 0 0]] H base = some (.ms b ver 0 (l.filter fun x => apartB c x h).length l.length, hs H b ⟨ver, 1, true, ((l.filter fun x => apartB c x h) ++ List.replicate (l.length - (l.filter fun x => apartB c x h).length) 0).map eI⟩) := by
  suffices hsuf : OkF (F PP shF 151 [.ms b ver 0 l.length l.length, .fn 152 [.mp b3 v3 0 0, .mp b5 v5 0 0]] H base) (fun d H' => d = .ms b ver 0 (l.filter fun x => apartB c x h).length l.length ∧ H' = Cp.hs H b ⟨ver, 1, true, ((l.filter fun x => apartB c x h) ++ List.replicate (l.length - (l.filter fun x => apartB c x h).length) 0).map eI⟩) by
    obtain ⟨d, H', h1, rfl, rfl⟩ := hsuf; exact h1
  refine F_ok PP151 rfl ⟨by simp [ir151], by simpa using hbase⟩ ?_
  have lc := closed_eI l
  have lt : List.take l.length (List.map eI l) = List.map eI l := List.take_of_length_le (by simp)
  rcases FV_IndexFunc l hl 152 [.rp (eK c), .rp [dI h]] rfl (fun _ => rfl) (fun x => !apartB c x h) (fun x _ => FV_Standbys1 c hc x h) with ⟨hI, hall⟩ | ⟨i, hI, hi, hp, hall⟩
  · have hf : (l.filter fun x => apartB c x h) = l := List.filter_eq_self.2 fun x hx => by simpa using hall x hx
    have hse := hs_selfx hb rfl
    rw [hf]
    simp -implicitDefEqProofs only [go_sem, ↓reduceIte, Nat.reduceEqDiff, Nat.reduceAdd, Nat.reduceSub, Nat.reduceMul, Nat.reduceLeDiff, Nat.reduceLT, Nat.reduceBEq, Nat.reduceBNe, reduceCtorEq, beq_self_eq_true, Int.toNat_natCast, List.length_map, List.length_nil, Int.reduceToNat, Int.reduceAdd, Int.reduceSub, Int.reduceMul, Int.reduceLT, Int.reduceLE, Int.reduceEq, Int.reduceBEq, Int.reduceNeg, decide_true, decide_false, Nat.le_max_left, Nat.le_max_right, ne_eq, not_true_eq_false, not_false_eq_true, Int.natCast_zero, gt_iff_lt, ge_iff_le, Int.reduceGT, Int.reduceGE, Bool.false_and, Bool.and_false, Bool.true_and, Bool.and_true, ir151, hb, h3, h5, lc, lt, vpS hI rfl, Nat.sub_self, List.replicate_zero, hse]
  · have w0 : ((i : Int) == -1) = false := by simp
    have w1 : IntKind.wrap .i64 ((i : Int) + 1) = ((i + 1 : Nat) : Int) := by rw [w64 (by omega) (by omega)]; rfl
    have d0 : Del l l (fun x => apartB c x h) i (i + 1) := by
      have h1 : (l.take i).filter (fun x => apartB c x h) = l.take i := filter_take_all (by omega) (fun j hj => by simpa using hall j hj)
      have e : l.take (i + 1) = l.take i ++ [l.getD i 0] := by rw [List.take_add_one, getD_at (l := l) (i := i) (d := 0) (by omega)]; rfl
      have ef : (l.take (i + 1)).filter (fun x => apartB c x h) = l.take i := by
        rw [e, List.filter_append, h1, List.filter_cons, if_neg (by simpa using hp), List.filter_nil, List.append_nil]
      exact ⟨rfl, by rw [ef], rfl, by rw [ef, List.length_take]; omega, by omega⟩
    have hse := hs_selfx hb rfl
    simp -implicitDefEqProofs only [go_sem, ↓reduceIte, Nat.reduceEqDiff, Nat.reduceAdd, Nat.reduceSub, Nat.reduceMul, Nat.reduceLeDiff, Nat.reduceLT, Nat.reduceBEq, Nat.reduceBNe, reduceCtorEq, beq_self_eq_true, Int.toNat_natCast, List.length_map, List.length_nil, Int.reduceToNat, Int.reduceAdd, Int.reduceSub, Int.reduceMul, Int.reduceLT, Int.reduceLE, Int.reduceEq, Int.reduceBEq, Int.reduceNeg, decide_true, decide_false, Nat.le_max_left, Nat.le_max_right, ne_eq, not_true_eq_false, not_false_eq_true, Int.natCast_zero, gt_iff_lt, ge_iff_le, Int.reduceGT, Int.reduceGE, Bool.false_and, Bool.and_false, Bool.true_and, Bool.and_true, ir151, hb, h3, h5, lc, lt, vpS hI rfl, w0, w1]
    refine (delete_l0 c hc h b ver b3 v3 b5 v5 hb3 hb5 l hl base H h3 h5 (i + 1) _ ⟨l, i, d0, ?_, ?_, ?_, ?_, hse.symm, by omega⟩).mono ?_ <;> (try simp -implicitDefEqProofs only [go_sem, ↓reduceIte, Nat.reduceEqDiff, Nat.reduceAdd, Nat.reduceSub, Nat.reduceMul, Nat.reduceLeDiff, Nat.reduceLT, Nat.reduceBEq, Nat.reduceBNe, reduceCtorEq, beq_self_eq_true, Int.toNat_natCast, List.length_map, List.length_nil, Int.reduceToNat, Int.reduceAdd, Int.reduceSub, Int.reduceMul, Int.reduceLT, Int.reduceLE, Int.reduceEq, Int.reduceBEq, Int.reduceNeg, decide_true, decide_false, Nat.le_max_left, Nat.le_max_right, ne_eq, not_true_eq_false, not_false_eq_true, Int.natCast_zero, gt_iff_lt, ge_iff_le, Int.reduceGT, Int.reduceGE, Bool.false_and, Bool.and_false, Bool.true_and, Bool.and_true, ])
    rintro e ⟨E, H'⟩ ⟨rfl, m, k, hd, e0, e1, e5, e6, eH, _⟩
    simp only at e0 e1 e5 e6 eH
    have hb' : hg H' b = ⟨ver, 1, true, m.map eI⟩ := by subst eH; simp -implicitDefEqProofs only [go_sem, ↓reduceIte, Nat.reduceEqDiff, Nat.reduceAdd, Nat.reduceSub, Nat.reduceMul, Nat.reduceLeDiff, Nat.reduceLT, Nat.reduceBEq, Nat.reduceBNe, reduceCtorEq, beq_self_eq_true, Int.toNat_natCast, List.length_map, List.length_nil, Int.reduceToNat, Int.reduceAdd, Int.reduceSub, Int.reduceMul, Int.reduceLT, Int.reduceLE, Int.reduceEq, Int.reduceBEq, Int.reduceNeg, decide_true, decide_false, Nat.le_max_left, Nat.le_max_right, ne_eq, not_true_eq_false, not_false_eq_true, Int.natCast_zero, gt_iff_lt, ge_iff_le, Int.reduceGT, Int.reduceGE, Bool.false_and, Bool.and_false, Bool.true_and, Bool.and_true, ]
    have hij := hd.ij
    have hml := hd.len
    have hil := hd.il
    have htk := hd.tk
    rw [List.take_length] at hil htk
    have r0 : (0 : Int) ≤ (k : Int) ∧ (k : Int) ≤ (l.length : Int) := by omega
    have r1 : ¬ l.length - k = 0 := by omega
    have r2 : k + (l.length - k) ≤ l.length := by omega
    have ra : ((List.replicate (l.length - k) [dI 0]).all fun el => el.length == 1 && el.all oneD) = true := by
      rw [List.all_eq_true]
      intro el hel
      rw [(List.mem_replicate.1 hel).2]; rfl
    have rd : List.take k (List.map eI m) ++ List.replicate (l.length - k) [dI 0] ++ List.drop (k + (l.length - k)) (List.map eI m) = List.map eI ((l.filter fun x => apartB c x h) ++ List.replicate (l.length - k) 0) := by
      rw [List.drop_of_length_le (by simp [hml]; omega), List.append_nil, List.map_append, ← htk, List.map_take, List.map_replicate]
    simp -implicitDefEqProofs only [go_sem, ↓reduceIte, Nat.reduceEqDiff, Nat.reduceAdd, Nat.reduceSub, Nat.reduceMul, Nat.reduceLeDiff, Nat.reduceLT, Nat.reduceBEq, Nat.reduceBNe, reduceCtorEq, beq_self_eq_true, Int.toNat_natCast, List.length_map, List.length_nil, Int.reduceToNat, Int.reduceAdd, Int.reduceSub, Int.reduceMul, Int.reduceLT, Int.reduceLE, Int.reduceEq, Int.reduceBEq, Int.reduceNeg, decide_true, decide_false, Nat.le_max_left, Nat.le_max_right, ne_eq, not_true_eq_false, not_false_eq_true, Int.natCast_zero, gt_iff_lt, ge_iff_le, Int.reduceGT, Int.reduceGE, Bool.false_and, Bool.and_false, Bool.true_and, Bool.and_true, e0, e1, e5, hb', r0, r1, r2, hml, List.length_replicate, Int.le_refl, ra, rd, ← hil]
    rw [eH, hs_hs]
theorem F_DeleteNil (c : Conf) (h : Int) (b3 v3 b5 v5 : Nat) (H : VHeap) (base : Nat) (h3 : hg H b3 = ⟨v3, 0, true, [eK c]⟩) (h5 : hg H b5 = ⟨v5, 0, true, [[dI h]]⟩) (hbase : H.length ≤ base) :
    F PP shF 151 [.lit (.slice none 0 0), .fn 152 [.mp b3 v3 0 0, .mp b5 v5 0 0]] H base = some (.lit (.slice none 0 0), H) := by
  rw [F_fun PP151 rfl ⟨by simp [ir151], by simpa using hbase⟩]
  have hI : FV PP shF 156 [.sl [], .fn 152 [.rp (eK c), .rp [dI h]]] = some (dI (-1)) := by
    refine FV_ok (F_ok PP156 rfl ⟨by simp [ir156], by simp⟩ ?_)
    simp -implicitDefEqProofs only [go_sem, ↓reduceIte, Nat.reduceEqDiff, Nat.reduceAdd, Nat.reduceSub, Nat.reduceMul, Nat.reduceLeDiff, Nat.reduceLT, Nat.reduceBEq, Nat.reduceBNe, reduceCtorEq, beq_self_eq_true, Int.toNat_natCast, List.length_map, List.length_nil, Int.reduceToNat, Int.reduceAdd, Int.reduceSub, Int.reduceMul, Int.reduceLT, Int.reduceLE, Int.reduceEq, Int.reduceBEq, Int.reduceNeg, decide_true, decide_false, Nat.le_max_left, Nat.le_max_right, ne_eq, not_true_eq_false, not_false_eq_true, Int.natCast_zero, gt_iff_lt, ge_iff_le, Int.reduceGT, Int.reduceGE, Bool.false_and, Bool.and_false, Bool.true_and, Bool.and_true, ir156]
    rw [R_loop]
    simp -implicitDefEqProofs only [go_sem, ↓reduceIte, Nat.reduceEqDiff, Nat.reduceAdd, Nat.reduceSub, Nat.reduceMul, Nat.reduceLeDiff, Nat.reduceLT, Nat.reduceBEq, Nat.reduceBNe, reduceCtorEq, beq_self_eq_true, Int.toNat_natCast, List.length_map, List.length_nil, Int.reduceToNat, Int.reduceAdd, Int.reduceSub, Int.reduceMul, Int.reduceLT, Int.reduceLE, Int.reduceEq, Int.reduceBEq, Int.reduceNeg, decide_true, decide_false, Nat.le_max_left, Nat.le_max_right, ne_eq, not_true_eq_false, not_false_eq_true, Int.natCast_zero, gt_iff_lt, ge_iff_le, Int.reduceGT, Int.reduceGE, Bool.false_and, Bool.and_false, Bool.true_and, Bool.and_true, ir156_l0]
  simp -implicitDefEqProofs only [go_sem, ↓reduceIte, Nat.reduceEqDiff, Nat.reduceAdd, Nat.reduceSub, Nat.reduceMul, Nat.reduceLeDiff, Nat.reduceLT, Nat.reduceBEq, Nat.reduceBNe, reduceCtorEq, beq_self_eq_true, Int.toNat_natCast, List.length_map, List.length_nil, Int.reduceToNat, Int.reduceAdd, Int.reduceSub, Int.reduceMul, Int.reduceLT, Int.reduceLE, Int.reduceEq, Int.reduceBEq, Int.reduceNeg, decide_true, decide_false, Nat.le_max_left, Nat.le_max_right, ne_eq, not_true_eq_false, not_false_eq_true, Int.natCast_zero, gt_iff_lt, ge_iff_le, Int.reduceGT, Int.reduceGE, Bool.false_and, Bool.and_false, Bool.true_and, Bool.and_true, ir151, h3, h5, vpS hI rfl]
theorem frz_pref {H : VHeap} {b ver n c : Nat} {m r : List Int} (hb : hg H b = ⟨ver, 1, true, (m ++ r).map eI⟩) (hn : m.length = n) (hc : n ≤ c) (k : Nat) : frzD H (k + 1) (.ms b ver 0 n c) = some (.sl (m.map eI)) ∧ freshD H (k + 2) (.ms b ver 0 n c) = true := by
  have ht : List.take n ((m ++ r).map eI) = m.map eI := by rw [List.map_append, List.take_append_of_le_length (by simp; omega), List.take_of_length_le (by simp; omega)]
  have hl : n ≤ (m ++ r).length := by simp; omega
  constructor
  · rw [frz_ms, hb]
    simp only [VB.part, ne_eq, Nat.zero_add, List.length_map, hl, hc, and_self, ↓reduceIte, List.drop_zero, ht, Option.bind_some, closed_eI, Nat.reduceEqDiff, not_false_eq_true, reduceCtorEq, Nat.one_ne_zero]
  · have hc := lits_eI m
    simp only [freshD, hb, VB.part, ne_eq, Nat.zero_add, List.length_map, hl, and_self, ↓reduceIte, List.drop_zero, ht, Nat.one_ne_zero, not_false_eq_true]
    rw [List.all_eq_true] at hc ⊢
    intro el hel
    have := hc el hel
    rw [List.all_eq_true] at this ⊢
    exact fun d hd => fresh_of_lit1 (this d hd)
theorem FVF_Standbys (c : Conf) (hc : ConfOk c) (t h : Int) : FVF PP shF 144 [.agg (eK c), dI t, dI h] (dL (sel c.cells.length (P53 c t h))) := by
  have hf : (sel c.cells.length (P52 c t)).filter (fun x => apartB c x h) = sel c.cells.length (P53 c t h) := by
    unfold sel
    rw [List.filter_map, List.filter_filter]
    congr 1
    apply List.filter_congr
    intro x _
    simp only [Function.comp, P53, P52, apartB_symm c h]
    exact Bool.and_comm _ _
  refine FVF_ok (F_ok PP144 rfl ⟨by simp [ir144], by simp⟩ ?_)
  have hl := sel_len c.cells.length (P52 c t)
  have hn := hc.lens.c
  have lh := lits_eI (sel c.cells.length (P52 c t))
  by_cases hz : sel c.cells.length (P52 c t) = []
  · rw [hz] at hf
    have U := vpU (OkF_Homes c t hc) lh
    simp only [hz, List.map_nil, ↓reduceIte] at U
    rw [← hf, List.filter_nil]
    have D := F_DeleteNil c h
    simp -implicitDefEqProofs only [go_sem, ↓reduceIte, Nat.reduceEqDiff, Nat.reduceAdd, Nat.reduceSub, Nat.reduceMul, Nat.reduceLeDiff, Nat.reduceLT, Nat.reduceBEq, Nat.reduceBNe, reduceCtorEq, beq_self_eq_true, Int.toNat_natCast, List.length_map, List.length_nil, Int.reduceToNat, Int.reduceAdd, Int.reduceSub, Int.reduceMul, Int.reduceLT, Int.reduceLE, Int.reduceEq, Int.reduceBEq, Int.reduceNeg, decide_true, decide_false, Nat.le_max_left, Nat.le_max_right, ne_eq, not_true_eq_false, not_false_eq_true, Int.natCast_zero, gt_iff_lt, ge_iff_le, Int.reduceGT, Int.reduceGE, Bool.false_and, Bool.and_false, Bool.true_and, Bool.and_true, ir144, eK, U, D]
    exact ⟨rfl, rfl⟩
  · have U := vpU (OkF_Homes c t hc) lh
    have hz' : ¬ (sel c.cells.length (P52 c t)).map eI = [] := by simpa using hz
    simp only [hz', ↓reduceIte] at U
    have D := fun b ver b3 v3 b5 v5 h1 h2 => F_DeleteFunc c hc h b ver b3 v3 b5 v5 h1 h2 (sel c.cells.length (P52 c t)) (by omega)
    rw [hf] at D
    have ll : (sel c.cells.length (P53 c t h)).length ≤ (sel c.cells.length (P52 c t)).length := by rw [← hf]; exact List.length_filter_le _ _
    have tk : List.take (sel c.cells.length (P53 c t h)).length (List.map eI (sel c.cells.length (P53 c t h) ++ List.replicate ((sel c.cells.length (P52 c t)).length - (sel c.cells.length (P53 c t h)).length) 0)) = List.map eI (sel c.cells.length (P53 c t h)) := by
      rw [List.map_append, List.take_append_of_le_length (by simp), List.take_of_length_le (by simp)]
    have l2 : (sel c.cells.length (P53 c t h)).length ≤ (sel c.cells.length (P53 c t h) ++ List.replicate ((sel c.cells.length (P52 c t)).length - (sel c.cells.length (P53 c t h)).length) 0).length := by simp
    have cl := closed_eI (sel c.cells.length (P53 c t h))
    simp -implicitDefEqProofs only [go_sem, ↓reduceIte, Nat.reduceEqDiff, Nat.reduceAdd, Nat.reduceSub, Nat.reduceMul, Nat.reduceLeDiff, Nat.reduceLT, Nat.reduceBEq, Nat.reduceBNe, reduceCtorEq, beq_self_eq_true, Int.toNat_natCast, List.length_map, List.length_nil, Int.reduceToNat, Int.reduceAdd, Int.reduceSub, Int.reduceMul, Int.reduceLT, Int.reduceLE, Int.reduceEq, Int.reduceBEq, Int.reduceNeg, decide_true, decide_false, Nat.le_max_left, Nat.le_max_right, ne_eq, not_true_eq_false, not_false_eq_true, Int.natCast_zero, gt_iff_lt, ge_iff_le, Int.reduceGT, Int.reduceGE, Bool.false_and, Bool.and_false, Bool.true_and, Bool.and_true, ir144, eK, U, D, ll, tk, l2, cl]
    exact (frz_pref (r := List.replicate ((sel c.cells.length (P52 c t)).length - (sel c.cells.length (P53 c t h)).length) 0) (by simp -implicitDefEqProofs only [go_sem, ↓reduceIte, Nat.reduceEqDiff, Nat.reduceAdd, Nat.reduceSub, Nat.reduceMul, Nat.reduceLeDiff, Nat.reduceLT, Nat.reduceBEq, Nat.reduceBNe, reduceCtorEq, beq_self_eq_true, Int.toNat_natCast, List.length_map, List.length_nil, Int.reduceToNat, Int.reduceAdd, Int.reduceSub, Int.reduceMul, Int.reduceLT, Int.reduceLE, Int.reduceEq, Int.reduceBEq, Int.reduceNeg, decide_true, decide_false, Nat.le_max_left, Nat.le_max_right, ne_eq, not_true_eq_false, not_false_eq_true, Int.natCast_zero, gt_iff_lt, ge_iff_le, Int.reduceGT, Int.reduceGE, Bool.false_and, Bool.and_false, Bool.true_and, Bool.and_true, ]) rfl ll 4).2
theorem FV_run (k : Nat) {g : Nat} (h : (vmach PP shF k g [] [] 0).map (·.1) = some (dB true)) : FV PP shF g [] = some (dB true) := by
  simp only [Option.map_eq_some_iff] at h
  obtain ⟨⟨d, H⟩, h1, h2⟩ := h
  simp only at h2; subst h2
  exact FV_B (F_of k h1)
theorem FV_awake05 : FV PP shF 138 [] = some (dB true) := FV_run 60 (by kernel_rfl)
theorem Between_ex (v low high : Int) (hv : I64 v) (h0 : -1000000000 ≤ low) (h1 : low ≤ high) (h2 : high ≤ 1000000000) : ∃ y, low ≤ y ∧ y ≤ high ∧ FV PP shF 15 [dI v, dI low, dI high] = some (dI y) := by
  refine ⟨_, ?_, ?_, FV_Between v low high hv h0 h1 h2⟩
  · have := Int.emod_nonneg v (b := high - low + 1) (by omega); omega
  · have := Int.emod_lt_of_pos v (b := high - low + 1) (by omega); omega
def L136 (c : Conf) (k : Nat) (w : VSt) : Prop := ∃ t a b : Int, I64 t ∧ I64 a ∧ I64 b ∧ gt .bad w.E 1 = dI t ∧ gt .bad w.E 2 = dI a ∧ gt .bad w.E 3 = dI b ∧ gt .bad w.E 9 = .mp 9 1 0 0 ∧ hg w.H 9 = ⟨1, 0, true, [eK c]⟩ ∧ gt .bad w.E 10 = dI (k : Nat) ∧ k ≤ 2
theorem cells_l0 (c : Conf) (hc : ConfOk c) : ∀ k w, L136 c k w → Ok (R PP shF 0 70 (.loop ir136_l0) w) (fun e w => e = .exit 0) := by
  refine Ok_up 2 (L136 c) fun k w hI => ?_
  obtain ⟨E, H⟩ := w
  obtain ⟨t, a, b, it, ia, ib, e1, e2, e3, e9, h9, e10, hk⟩ := hI
  simp only at e1 e2 e3 e9 h9 e10
  have w1 : IntKind.wrap .i64 ((k : Int) + 1) = ((k + 1 : Nat) : Int) := by rw [w64 (by omega) (by omega)]; rfl
  by_cases hlt : k < 2
  · have d1 : decide ((k : Int) < 2) = true := by simp; omega
    have hn := hc.lens.c
    have hl1 := sel_len c.cells.length (P52 c t)
    have hl2 := sel_len c.cells.length (P53 c t a)
    have M1 := FV_MayAll c hc t a
    have M2 := FV_rMay c hc t a
    have A1 := FV_Apart c hc a b
    have A2 := FV_rApart c hc a b
    have H1 := FVF_Homes c t hc
    have H2 := FVF_52 c t hc
    have S1 := FVF_Standbys c hc t a
    have S2 := FVF_53 c t a hc
    have Q1 := FV_SameInts (sel c.cells.length (P52 c t)) (sel c.cells.length (P52 c t)) (by omega) (by omega)
    have Q2 := FV_SameInts (sel c.cells.length (P53 c t a)) (sel c.cells.length (P53 c t a)) (by omega) (by omega)
    rw [decide_eq_true rfl] at Q1 Q2
    obtain ⟨t', lt, ut, B1⟩ := Between_ex t (-1) 5 it (by omega) (by omega) (by omega)
    have it' : I64 t' := ⟨by omega, by omega⟩
    obtain ⟨a', la, ua, B2⟩ := Between_ex a (-1) 8 ia (by omega) (by omega) (by omega)
    have ia' : I64 a' := ⟨by omega, by omega⟩
    obtain ⟨b', lb, ub, B3⟩ := Between_ex b (-1) 8 ib (by omega) (by omega) (by omega)
    have ib' : I64 b' := ⟨by omega, by omega⟩
    have n1 : ∀ x : Bool, (x == x) = true := fun x => by simp
    simp -implicitDefEqProofs only [go_sem, ↓reduceIte, Nat.reduceEqDiff, Nat.reduceAdd, Nat.reduceSub, Nat.reduceMul, Nat.reduceLeDiff, Nat.reduceLT, Nat.reduceBEq, Nat.reduceBNe, reduceCtorEq, beq_self_eq_true, Int.toNat_natCast, List.length_map, List.length_nil, Int.reduceToNat, Int.reduceAdd, Int.reduceSub, Int.reduceMul, Int.reduceLT, Int.reduceLE, Int.reduceEq, Int.reduceBEq, Int.reduceNeg, decide_true, decide_false, Nat.le_max_left, Nat.le_max_right, ne_eq, not_true_eq_false, not_false_eq_true, Int.natCast_zero, gt_iff_lt, ge_iff_le, Int.reduceGT, Int.reduceGE, Bool.false_and, Bool.and_false, Bool.true_and, Bool.and_true, ir136_l0, eK, e1, e2, e3, e9, h9, e10, d1, w1, vpS M1 rfl, vpS M2 rfl, vpS A1 rfl, vpS A2 rfl, vpF H1 rfl, vpF H2 rfl, vpF S1 rfl, vpF S2 rfl, vpS Q1 rfl, vpS Q2 rfl, vpS B1 rfl, vpS B2 rfl, vpS B3 rfl, n1]
    refine .next hlt ⟨t', a', b', it', ia', ib', ?_, ?_, ?_, ?_, ?_, ?_, by omega⟩ <;> simp -implicitDefEqProofs only [go_sem, ↓reduceIte, Nat.reduceEqDiff, Nat.reduceAdd, Nat.reduceSub, Nat.reduceMul, Nat.reduceLeDiff, Nat.reduceLT, Nat.reduceBEq, Nat.reduceBNe, reduceCtorEq, beq_self_eq_true, Int.toNat_natCast, List.length_map, List.length_nil, Int.reduceToNat, Int.reduceAdd, Int.reduceSub, Int.reduceMul, Int.reduceLT, Int.reduceLE, Int.reduceEq, Int.reduceBEq, Int.reduceNeg, decide_true, decide_false, Nat.le_max_left, Nat.le_max_right, ne_eq, not_true_eq_false, not_false_eq_true, Int.natCast_zero, gt_iff_lt, ge_iff_le, Int.reduceGT, Int.reduceGE, Bool.false_and, Bool.and_false, Bool.true_and, Bool.and_true, e9, h9, w1, eK]
  · have d1 : decide ((k : Int) < 2) = false := by simp; omega
    simp -implicitDefEqProofs only [go_sem, ↓reduceIte, Nat.reduceEqDiff, Nat.reduceAdd, Nat.reduceSub, Nat.reduceMul, Nat.reduceLeDiff, Nat.reduceLT, Nat.reduceBEq, Nat.reduceBNe, reduceCtorEq, beq_self_eq_true, Int.toNat_natCast, List.length_map, List.length_nil, Int.reduceToNat, Int.reduceAdd, Int.reduceSub, Int.reduceMul, Int.reduceLT, Int.reduceLE, Int.reduceEq, Int.reduceBEq, Int.reduceNeg, decide_true, decide_false, Nat.le_max_left, Nat.le_max_right, ne_eq, not_true_eq_false, not_false_eq_true, Int.natCast_zero, gt_iff_lt, ge_iff_le, Int.reduceGT, Int.reduceGE, Bool.false_and, Bool.and_false, Bool.true_and, Bool.and_true, ir136_l0, e10, d1]
    exact .exit rfl
theorem law_TenantCells (l : List Int) (hl : I64s l) (t : Int) (h1 : I64 t) (a : Int) (h2 : I64 a) (b : Int) (h3 : I64 b) : OkF (F PP shF 136 [dL l, dI t, dI a, dI b] [] 0) (fun d _ => d = dB true) := by
  refine F_ok PP136 rfl ⟨by simp [ir136], by simp⟩ ?_
  by_cases hlen : l.length ≤ 200
  · have L := FV_Light l
    rw [decide_eq_true hlen] at L
    obtain ⟨c, hc, hF⟩ := FV_Config l hl
    simp -implicitDefEqProofs only [go_sem, ↓reduceIte, Nat.reduceEqDiff, Nat.reduceAdd, Nat.reduceSub, Nat.reduceMul, Nat.reduceLeDiff, Nat.reduceLT, Nat.reduceBEq, Nat.reduceBNe, reduceCtorEq, beq_self_eq_true, Int.toNat_natCast, List.length_map, List.length_nil, Int.reduceToNat, Int.reduceAdd, Int.reduceSub, Int.reduceMul, Int.reduceLT, Int.reduceLE, Int.reduceEq, Int.reduceBEq, Int.reduceNeg, decide_true, decide_false, Nat.le_max_left, Nat.le_max_right, ne_eq, not_true_eq_false, not_false_eq_true, Int.natCast_zero, gt_iff_lt, ge_iff_le, Int.reduceGT, Int.reduceGE, Bool.false_and, Bool.and_false, Bool.true_and, Bool.and_true, ir136, vpS L rfl, vpL hF rfl, eK]
    refine (cells_l0 c hc 0 _ ⟨t, a, b, h1, h2, h3, ?_, ?_, ?_, ?_, ?_, ?_, by omega⟩).mono ?_ <;> (try simp -implicitDefEqProofs only [go_sem, ↓reduceIte, Nat.reduceEqDiff, Nat.reduceAdd, Nat.reduceSub, Nat.reduceMul, Nat.reduceLeDiff, Nat.reduceLT, Nat.reduceBEq, Nat.reduceBNe, reduceCtorEq, beq_self_eq_true, Int.toNat_natCast, List.length_map, List.length_nil, Int.reduceToNat, Int.reduceAdd, Int.reduceSub, Int.reduceMul, Int.reduceLT, Int.reduceLE, Int.reduceEq, Int.reduceBEq, Int.reduceNeg, decide_true, decide_false, Nat.le_max_left, Nat.le_max_right, ne_eq, not_true_eq_false, not_false_eq_true, Int.natCast_zero, gt_iff_lt, ge_iff_le, Int.reduceGT, Int.reduceGE, Bool.false_and, Bool.and_false, Bool.true_and, Bool.and_true, eK])
    rintro e ⟨E, H⟩ rfl
    simp -implicitDefEqProofs only [go_sem, ↓reduceIte, Nat.reduceEqDiff, Nat.reduceAdd, Nat.reduceSub, Nat.reduceMul, Nat.reduceLeDiff, Nat.reduceLT, Nat.reduceBEq, Nat.reduceBNe, reduceCtorEq, beq_self_eq_true, Int.toNat_natCast, List.length_map, List.length_nil, Int.reduceToNat, Int.reduceAdd, Int.reduceSub, Int.reduceMul, Int.reduceLT, Int.reduceLE, Int.reduceEq, Int.reduceBEq, Int.reduceNeg, decide_true, decide_false, Nat.le_max_left, Nat.le_max_right, ne_eq, not_true_eq_false, not_false_eq_true, Int.natCast_zero, gt_iff_lt, ge_iff_le, Int.reduceGT, Int.reduceGE, Bool.false_and, Bool.and_false, Bool.true_and, Bool.and_true, vpS FV_awake05 rfl]
  · have L := FV_Light l
    rw [decide_eq_false hlen] at L
    simp -implicitDefEqProofs only [go_sem, ↓reduceIte, Nat.reduceEqDiff, Nat.reduceAdd, Nat.reduceSub, Nat.reduceMul, Nat.reduceLeDiff, Nat.reduceLT, Nat.reduceBEq, Nat.reduceBNe, reduceCtorEq, beq_self_eq_true, Int.toNat_natCast, List.length_map, List.length_nil, Int.reduceToNat, Int.reduceAdd, Int.reduceSub, Int.reduceMul, Int.reduceLT, Int.reduceLE, Int.reduceEq, Int.reduceBEq, Int.reduceNeg, decide_true, decide_false, Nat.le_max_left, Nat.le_max_right, ne_eq, not_true_eq_false, not_false_eq_true, Int.natCast_zero, gt_iff_lt, ge_iff_le, Int.reduceGT, Int.reduceGE, Bool.false_and, Bool.and_false, Bool.true_and, Bool.and_true, ir136, vpS L rfl, vpS FV_awake05 rfl]
end Go.Proofs.Cp
